/- Addresses: the contract of path.Parse. -/
import Derived.Test.YtnjmhkehckhihaaDoorPathC
namespace Go.Proofs.YtnjmhkehckhihaaDoor
open Go.RowKit

abbrev UrlR := (Bool × ByteArray × ByteArray) × Int
def urlV (u : UrlR) : Value := .tuple #[.agg #[.bool u.1.1, .string u.1.2.1, .string u.1.2.2], .int .i64 u.2]
def urlE (e : Int) : UrlR := ((false, ByteArray.empty, ByteArray.empty), e)
def pathS (tl : ByteArray) : ByteArray := if (tl.extract 0 (pos askB tl)).size = 0 then ⟨#[47]⟩ else tl.extract 0 (pos askB tl)
/-- An address behind its scheme. -/
def parseR (sec : Bool) (t : ByteArray) : UrlR :=
  match canonS (t.extract 0 (pos stopB t)) with
  | none => urlE 121
  | some h => if pathB (pathS (t.extract (pos stopB t) t.size)) then ((sec, h, pathS (t.extract (pos stopB t) t.size)), 0) else urlE 122
def safeS : ByteArray := ⟨#[104, 116, 116, 112, 115, 58, 47, 47]⟩
def openS : ByteArray := ⟨#[104, 116, 116, 112, 58, 47, 47]⟩
/-- An address, or why a text is none. -/
def parseO (s : ByteArray) : UrlR := if preB s safeS then parseR true (s.extract 8 s.size) else if preB s openS then parseR false (s.extract 7 s.size) else urlE 120
theorem bcell {W w1 : World} (hb : Below W.heap.size W w1) : (∀ b o, b < W.heap.size → w1.cell? ⟨b, o, none⟩ = W.cell? ⟨b, o, none⟩) ∧ (∀ b o, b < W.heap.size → w1.frozen? ⟨b, o, none⟩ = W.frozen? ⟨b, o, none⟩) :=
  ⟨fun b o h => hb.cell (p := ⟨b, o, none⟩) h, fun b o h => hb.frozen (p := ⟨b, o, none⟩) h⟩

set_option maxRecDepth 100000 in
theorem parse_scheme (s : ByteArray) (w : World) (hs : s.size ≤ 9223372036854775806) (h1 : preB s safeS = false) (h2 : preB s openS = false) :
    Calls Tryd.prog 16 #[.string s] w fun e w' => e = .returned (urlV (parseO s)) ∧ Below w.heap.size w w' := by
  have HV := Lib.hid (show parseO s = urlE 120 by unfold parseO; rw [h1, h2]; simp only [Bool.false_eq_true, if_false])
  have H1 := Lib.hid h1
  have H2 := Lib.hid h2
  clear h1 h2
  go_enter Tryd.func16, Tryd.ntmps16
  go_wp2_with fail
  refine (cutPrefix_any s safeS _ (by omega)).mono ?_
  rintro e w1 ⟨rfl, rfl⟩
  rw [H1.out]
  go_wp2_with fail
  refine (cutPrefix_any s openS _ (by omega)).mono ?_
  rintro e w1 ⟨rfl, rfl⟩
  rw [H2.out]
  go_wp2_with fail
  refine bodyPost_ret (v := urlV (urlE 120)) (by simp [results, Tryd.results16, go_sem, urlV, urlE]; rfl) rfl ⟨by rw [HV.out], ?_⟩
  exact (Below.refl _ _).alloc (Nat.le_refl _) _

theorem parse_tail_mark : True := trivial
set_option maxHeartbeats 1000000 in
set_option maxRecDepth 100000 in
theorem parse_safe_none (s t : ByteArray) (w : World) (hs : s.size ≤ 9223372036854775806) (ht : t = s.extract 8 s.size) (hm : HasMax w) (h1 : preB s safeS = true) (hk : canonS (t.extract 0 (pos stopB t)) = none) :
    Calls Tryd.prog 16 #[.string s] w fun e w' => e = .returned (urlV (parseO s)) ∧ Below w.heap.size w w' := by
  have hP : parseO s = parseR true t := by unfold parseO; rw [if_pos h1, ht]
  have HC := Lib.hid (show cutS s safeS = t by unfold cutS; rw [if_pos h1, show safeS.size = 8 from rfl, ht])
  have hz : t.size ≤ 9223372036854775806 := by rw [ht, ByteArray.size_extract]; omega
  have hz2 : (t.extract 0 (pos stopB t)).size ≤ 9223372036854775806 := by rw [ByteArray.size_extract]; omega
  have HV := Lib.hid (show parseO s = urlE 121 by rw [hP]; unfold parseR; rw [hk])
  have HK := Lib.hid (canonV_none hk)
  have HM := Lib.hid hm
  have H1 := Lib.hid h1
  clear hP hk hm h1 ht
  go_enter Tryd.func16, Tryd.ntmps16
  go_wp2_with fail
  refine (cutPrefix_any s safeS _ (by omega)).mono ?_
  rintro e w1 ⟨rfl, rfl⟩
  rw [H1.out, HC.out]
  go_wp2_with fail
  refine (until_stop t _ (by omega)).mono ?_
  rintro e w2 ⟨rfl, n, rfl⟩
  go_wp2_with fail
  refine (canon_any (t.extract 0 (pos stopB t)) _ hz2 ?hm).mono ?_
  case hm => exact max_keep HM.out (Below.drawn ((Below.refl _ _).alloc (Nat.le_refl _) _) _)
  rintro e w3 ⟨rfl, hb3⟩
  rw [HK.out]
  have hB := Below.snoc (Below.drawn ((Below.refl _ w).alloc (Nat.le_refl _) _) _) hb3
  obtain ⟨hc3, hf3⟩ := bcell hb3
  have hz3 : w.heap.size < w3.heap.size := by have := hb3.size; simp at this; omega
  clear hb3
  go_wp2_with fail
  refine bodyPost_ret (v := urlV (urlE 121)) ?res rfl ⟨by rw [HV.out], ?bel⟩
  case res => simp [results, Tryd.results16, go_sem, urlV, urlE, *]; try rfl
  case bel => repeat (first | assumption | exact Nat.le_refl _ | refine Below.setCell ?_ ?_ _ | refine Below.drawn ?_ _)
set_option maxHeartbeats 1000000 in
set_option maxRecDepth 100000 in
theorem parse_safe_empty (s t : ByteArray) (w : World) (hs : s.size ≤ 9223372036854775806) (ht : t = s.extract 8 s.size) (hm : HasMax w) (h1 : preB s safeS = true) (h : ByteArray) (hk : canonS (t.extract 0 (pos stopB t)) = some h) (p : ByteArray) (hp : (t.extract (pos stopB t) t.size).extract 0 (pos askB (t.extract (pos stopB t) t.size)) = p) (h2 : p.size = 0) :
    Calls Tryd.prog 16 #[.string s] w fun e w' => e = .returned (urlV (parseO s)) ∧ Below w.heap.size w w' := by
  have hP : parseO s = parseR true t := by unfold parseO; rw [if_pos h1, ht]
  have HC := Lib.hid (show cutS s safeS = t by unfold cutS; rw [if_pos h1, show safeS.size = 8 from rfl, ht])
  have hz : t.size ≤ 9223372036854775806 := by rw [ht, ByteArray.size_extract]; omega
  have hz2 : (t.extract 0 (pos stopB t)).size ≤ 9223372036854775806 := by rw [ByteArray.size_extract]; omega
  have hz4 : (t.extract (pos stopB t) t.size).size ≤ 9223372036854775806 := by rw [ByteArray.size_extract]; omega
  have hps : pathS (t.extract (pos stopB t) t.size) = ⟨#[47]⟩ := by unfold pathS; rw [hp, if_pos h2]
  have hpb : pathB ⟨#[47]⟩ = true := by decide
  have HV := Lib.hid (show parseO s = ((true, h, ⟨#[47]⟩), 0) by rw [hP]; unfold parseR; rw [hk]; simp only []; rw [hps, if_pos hpb])
  have HB := Lib.hid hpb
  have g0 : p.toList = [] := List.isEmpty_iff.1 ((empty_iff p).2 h2)
  have HK := Lib.hid (canonV_some hk)
  have HT := Lib.hid hp
  clear hps h2 hpb
  clear hp
  have HM := Lib.hid hm
  have H1 := Lib.hid h1
  clear hP hk hm h1 ht
  go_enter Tryd.func16, Tryd.ntmps16
  go_wp2_with fail
  refine (cutPrefix_any s safeS _ (by omega)).mono ?_
  rintro e w1 ⟨rfl, rfl⟩
  rw [H1.out, HC.out]
  go_wp2_with fail
  refine (until_stop t _ (by omega)).mono ?_
  rintro e w2 ⟨rfl, n, rfl⟩
  go_wp2_with fail
  refine (canon_any (t.extract 0 (pos stopB t)) _ hz2 ?hm).mono ?_
  case hm => exact max_keep HM.out (Below.drawn ((Below.refl _ _).alloc (Nat.le_refl _) _) _)
  rintro e w3 ⟨rfl, hb3⟩
  rw [HK.out]
  have hB := Below.snoc (Below.drawn ((Below.refl _ w).alloc (Nat.le_refl _) _) _) hb3
  obtain ⟨hc3, hf3⟩ := bcell hb3
  have hz3 : w.heap.size < w3.heap.size := by have := hb3.size; simp at this; omega
  clear hb3
  go_wp2_with fail
  refine (until_ask (t.extract (pos stopB t) t.size) _ (by omega)).mono ?_
  rintro e w4 ⟨rfl, n4, rfl⟩
  rw [HT.out]
  go_wp2_with fail
  refine (pright_any _ _ (by decide)).mono ?_
  rintro e w5 ⟨rfl, rfl⟩
  rw [HB.out]
  go_wp2_with fail
  refine bodyPost_ret (v := urlV (((true, h, ⟨#[47]⟩), 0))) ?res rfl ⟨by rw [HV.out], ?bel⟩
  case res => simp [results, Tryd.results16, go_sem, urlV, *]; try rfl
  case bel => repeat (first | assumption | exact Nat.le_refl _ | refine Below.setCell ?_ ?_ _ | refine Below.drawn ?_ _)
set_option maxHeartbeats 1000000 in
set_option maxRecDepth 100000 in
theorem parse_safe_ok (s t : ByteArray) (w : World) (hs : s.size ≤ 9223372036854775806) (ht : t = s.extract 8 s.size) (hm : HasMax w) (h1 : preB s safeS = true) (h : ByteArray) (hk : canonS (t.extract 0 (pos stopB t)) = some h) (p : ByteArray) (hp : (t.extract (pos stopB t) t.size).extract 0 (pos askB (t.extract (pos stopB t) t.size)) = p) (h2 : p.size ≠ 0) (h3 : pathB p = true) :
    Calls Tryd.prog 16 #[.string s] w fun e w' => e = .returned (urlV (parseO s)) ∧ Below w.heap.size w w' := by
  have hP : parseO s = parseR true t := by unfold parseO; rw [if_pos h1, ht]
  have HC := Lib.hid (show cutS s safeS = t by unfold cutS; rw [if_pos h1, show safeS.size = 8 from rfl, ht])
  have hz : t.size ≤ 9223372036854775806 := by rw [ht, ByteArray.size_extract]; omega
  have hz2 : (t.extract 0 (pos stopB t)).size ≤ 9223372036854775806 := by rw [ByteArray.size_extract]; omega
  have hz4 : (t.extract (pos stopB t) t.size).size ≤ 9223372036854775806 := by rw [ByteArray.size_extract]; omega
  have hps : pathS (t.extract (pos stopB t) t.size) = p := by unfold pathS; rw [hp, if_neg h2]
  have HV := Lib.hid (show parseO s = ((true, h, p), 0) by rw [hP]; unfold parseR; rw [hk]; simp only []; rw [hps, if_pos h3])
  have HB := Lib.hid h3
  have g0 : p.toList.isEmpty = false := by rw [← Bool.not_eq_true, empty_iff]; exact h2
  have g1 : p.toList ≠ [] := fun h => by rw [h] at g0; simp at g0
  have hz5 : p.size ≤ 9223372036854775807 := by rw [← hp, ByteArray.size_extract, ByteArray.size_extract]; omega
  have HK := Lib.hid (canonV_some hk)
  have HT := Lib.hid hp
  clear hps h2 h3
  clear hp
  have HM := Lib.hid hm
  have H1 := Lib.hid h1
  clear hP hk hm h1 ht
  go_enter Tryd.func16, Tryd.ntmps16
  go_wp2_with fail
  refine (cutPrefix_any s safeS _ (by omega)).mono ?_
  rintro e w1 ⟨rfl, rfl⟩
  rw [H1.out, HC.out]
  go_wp2_with fail
  refine (until_stop t _ (by omega)).mono ?_
  rintro e w2 ⟨rfl, n, rfl⟩
  go_wp2_with fail
  refine (canon_any (t.extract 0 (pos stopB t)) _ hz2 ?hm).mono ?_
  case hm => exact max_keep HM.out (Below.drawn ((Below.refl _ _).alloc (Nat.le_refl _) _) _)
  rintro e w3 ⟨rfl, hb3⟩
  rw [HK.out]
  have hB := Below.snoc (Below.drawn ((Below.refl _ w).alloc (Nat.le_refl _) _) _) hb3
  obtain ⟨hc3, hf3⟩ := bcell hb3
  have hz3 : w.heap.size < w3.heap.size := by have := hb3.size; simp at this; omega
  clear hb3
  go_wp2_with fail
  refine (until_ask (t.extract (pos stopB t) t.size) _ (by omega)).mono ?_
  rintro e w4 ⟨rfl, n4, rfl⟩
  rw [HT.out]
  go_wp2_with fail
  refine (pright_any _ _ hz5).mono ?_
  rintro e w5 ⟨rfl, rfl⟩
  rw [HB.out]
  go_wp2_with fail
  refine bodyPost_ret (v := urlV (((true, h, p), 0))) ?res rfl ⟨by rw [HV.out], ?bel⟩
  case res => simp [results, Tryd.results16, go_sem, urlV, *]; try rfl
  case bel => repeat (first | assumption | exact Nat.le_refl _ | refine Below.setCell ?_ ?_ _ | refine Below.drawn ?_ _)
set_option maxHeartbeats 1000000 in
set_option maxRecDepth 100000 in
theorem parse_safe_bad (s t : ByteArray) (w : World) (hs : s.size ≤ 9223372036854775806) (ht : t = s.extract 8 s.size) (hm : HasMax w) (h1 : preB s safeS = true) (h : ByteArray) (hk : canonS (t.extract 0 (pos stopB t)) = some h) (p : ByteArray) (hp : (t.extract (pos stopB t) t.size).extract 0 (pos askB (t.extract (pos stopB t) t.size)) = p) (h2 : p.size ≠ 0) (h3 : pathB p = false) :
    Calls Tryd.prog 16 #[.string s] w fun e w' => e = .returned (urlV (parseO s)) ∧ Below w.heap.size w w' := by
  have hP : parseO s = parseR true t := by unfold parseO; rw [if_pos h1, ht]
  have HC := Lib.hid (show cutS s safeS = t by unfold cutS; rw [if_pos h1, show safeS.size = 8 from rfl, ht])
  have hz : t.size ≤ 9223372036854775806 := by rw [ht, ByteArray.size_extract]; omega
  have hz2 : (t.extract 0 (pos stopB t)).size ≤ 9223372036854775806 := by rw [ByteArray.size_extract]; omega
  have hz4 : (t.extract (pos stopB t) t.size).size ≤ 9223372036854775806 := by rw [ByteArray.size_extract]; omega
  have hps : pathS (t.extract (pos stopB t) t.size) = p := by unfold pathS; rw [hp, if_neg h2]
  have HV := Lib.hid (show parseO s = urlE 122 by rw [hP]; unfold parseR; rw [hk]; simp only []; rw [hps, if_neg (by rw [h3]; simp)])
  have HB := Lib.hid h3
  have g0 : p.toList.isEmpty = false := by rw [← Bool.not_eq_true, empty_iff]; exact h2
  have g1 : p.toList ≠ [] := fun h => by rw [h] at g0; simp at g0
  have hz5 : p.size ≤ 9223372036854775807 := by rw [← hp, ByteArray.size_extract, ByteArray.size_extract]; omega
  have HK := Lib.hid (canonV_some hk)
  have HT := Lib.hid hp
  clear hps h2 h3
  clear hp
  have HM := Lib.hid hm
  have H1 := Lib.hid h1
  clear hP hk hm h1 ht
  go_enter Tryd.func16, Tryd.ntmps16
  go_wp2_with fail
  refine (cutPrefix_any s safeS _ (by omega)).mono ?_
  rintro e w1 ⟨rfl, rfl⟩
  rw [H1.out, HC.out]
  go_wp2_with fail
  refine (until_stop t _ (by omega)).mono ?_
  rintro e w2 ⟨rfl, n, rfl⟩
  go_wp2_with fail
  refine (canon_any (t.extract 0 (pos stopB t)) _ hz2 ?hm).mono ?_
  case hm => exact max_keep HM.out (Below.drawn ((Below.refl _ _).alloc (Nat.le_refl _) _) _)
  rintro e w3 ⟨rfl, hb3⟩
  rw [HK.out]
  have hB := Below.snoc (Below.drawn ((Below.refl _ w).alloc (Nat.le_refl _) _) _) hb3
  obtain ⟨hc3, hf3⟩ := bcell hb3
  have hz3 : w.heap.size < w3.heap.size := by have := hb3.size; simp at this; omega
  clear hb3
  go_wp2_with fail
  refine (until_ask (t.extract (pos stopB t) t.size) _ (by omega)).mono ?_
  rintro e w4 ⟨rfl, n4, rfl⟩
  rw [HT.out]
  go_wp2_with fail
  refine (pright_any _ _ hz5).mono ?_
  rintro e w5 ⟨rfl, rfl⟩
  rw [HB.out]
  go_wp2_with fail
  refine bodyPost_ret (v := urlV (urlE 122)) ?res rfl ⟨by rw [HV.out], ?bel⟩
  case res => simp [results, Tryd.results16, go_sem, urlV, urlE, *]; try rfl
  case bel => repeat (first | assumption | exact Nat.le_refl _ | refine Below.setCell ?_ ?_ _ | refine Below.drawn ?_ _)
set_option maxHeartbeats 1000000 in
set_option maxRecDepth 100000 in
theorem parse_open_none (s t : ByteArray) (w : World) (hs : s.size ≤ 9223372036854775806) (ht : t = s.extract 7 s.size) (hm : HasMax w) (h0 : preB s safeS = false) (h1 : preB s openS = true) (hk : canonS (t.extract 0 (pos stopB t)) = none) :
    Calls Tryd.prog 16 #[.string s] w fun e w' => e = .returned (urlV (parseO s)) ∧ Below w.heap.size w w' := by
  have hP : parseO s = parseR false t := by unfold parseO; rw [if_neg (by rw [h0]; simp), if_pos h1, ht]
  have HC := Lib.hid (show cutS s openS = t by unfold cutS; rw [if_pos h1, show openS.size = 7 from rfl, ht])
  have hz : t.size ≤ 9223372036854775806 := by rw [ht, ByteArray.size_extract]; omega
  have hz2 : (t.extract 0 (pos stopB t)).size ≤ 9223372036854775806 := by rw [ByteArray.size_extract]; omega
  have HV := Lib.hid (show parseO s = urlE 121 by rw [hP]; unfold parseR; rw [hk])
  have HK := Lib.hid (canonV_none hk)
  have HM := Lib.hid hm
  have H1 := Lib.hid h1
  have H0 := Lib.hid h0
  clear h0
  clear hP hk hm h1 ht
  go_enter Tryd.func16, Tryd.ntmps16
  go_wp2_with fail
  refine (cutPrefix_any s safeS _ (by omega)).mono ?_
  rintro e w1 ⟨rfl, rfl⟩
  rw [H0.out]
  go_wp2_with fail
  refine (cutPrefix_any s openS _ (by omega)).mono ?_
  rintro e w1 ⟨rfl, rfl⟩
  rw [H1.out, HC.out]
  go_wp2_with fail
  refine (until_stop t _ (by omega)).mono ?_
  rintro e w2 ⟨rfl, n, rfl⟩
  go_wp2_with fail
  refine (canon_any (t.extract 0 (pos stopB t)) _ hz2 ?hm).mono ?_
  case hm => exact max_keep HM.out (Below.drawn ((Below.refl _ _).alloc (Nat.le_refl _) _) _)
  rintro e w3 ⟨rfl, hb3⟩
  rw [HK.out]
  have hB := Below.snoc (Below.drawn ((Below.refl _ w).alloc (Nat.le_refl _) _) _) hb3
  obtain ⟨hc3, hf3⟩ := bcell hb3
  have hz3 : w.heap.size < w3.heap.size := by have := hb3.size; simp at this; omega
  clear hb3
  go_wp2_with fail
  refine bodyPost_ret (v := urlV (urlE 121)) ?res rfl ⟨by rw [HV.out], ?bel⟩
  case res => simp [results, Tryd.results16, go_sem, urlV, urlE, *]; try rfl
  case bel => repeat (first | assumption | exact Nat.le_refl _ | refine Below.setCell ?_ ?_ _ | refine Below.drawn ?_ _)
set_option maxHeartbeats 1000000 in
set_option maxRecDepth 100000 in
theorem parse_open_empty (s t : ByteArray) (w : World) (hs : s.size ≤ 9223372036854775806) (ht : t = s.extract 7 s.size) (hm : HasMax w) (h0 : preB s safeS = false) (h1 : preB s openS = true) (h : ByteArray) (hk : canonS (t.extract 0 (pos stopB t)) = some h) (p : ByteArray) (hp : (t.extract (pos stopB t) t.size).extract 0 (pos askB (t.extract (pos stopB t) t.size)) = p) (h2 : p.size = 0) :
    Calls Tryd.prog 16 #[.string s] w fun e w' => e = .returned (urlV (parseO s)) ∧ Below w.heap.size w w' := by
  have hP : parseO s = parseR false t := by unfold parseO; rw [if_neg (by rw [h0]; simp), if_pos h1, ht]
  have HC := Lib.hid (show cutS s openS = t by unfold cutS; rw [if_pos h1, show openS.size = 7 from rfl, ht])
  have hz : t.size ≤ 9223372036854775806 := by rw [ht, ByteArray.size_extract]; omega
  have hz2 : (t.extract 0 (pos stopB t)).size ≤ 9223372036854775806 := by rw [ByteArray.size_extract]; omega
  have hz4 : (t.extract (pos stopB t) t.size).size ≤ 9223372036854775806 := by rw [ByteArray.size_extract]; omega
  have hps : pathS (t.extract (pos stopB t) t.size) = ⟨#[47]⟩ := by unfold pathS; rw [hp, if_pos h2]
  have hpb : pathB ⟨#[47]⟩ = true := by decide
  have HV := Lib.hid (show parseO s = ((false, h, ⟨#[47]⟩), 0) by rw [hP]; unfold parseR; rw [hk]; simp only []; rw [hps, if_pos hpb])
  have HB := Lib.hid hpb
  have g0 : p.toList = [] := List.isEmpty_iff.1 ((empty_iff p).2 h2)
  have HK := Lib.hid (canonV_some hk)
  have HT := Lib.hid hp
  clear hps h2 hpb
  clear hp
  have HM := Lib.hid hm
  have H1 := Lib.hid h1
  have H0 := Lib.hid h0
  clear h0
  clear hP hk hm h1 ht
  go_enter Tryd.func16, Tryd.ntmps16
  go_wp2_with fail
  refine (cutPrefix_any s safeS _ (by omega)).mono ?_
  rintro e w1 ⟨rfl, rfl⟩
  rw [H0.out]
  go_wp2_with fail
  refine (cutPrefix_any s openS _ (by omega)).mono ?_
  rintro e w1 ⟨rfl, rfl⟩
  rw [H1.out, HC.out]
  go_wp2_with fail
  refine (until_stop t _ (by omega)).mono ?_
  rintro e w2 ⟨rfl, n, rfl⟩
  go_wp2_with fail
  refine (canon_any (t.extract 0 (pos stopB t)) _ hz2 ?hm).mono ?_
  case hm => exact max_keep HM.out (Below.drawn ((Below.refl _ _).alloc (Nat.le_refl _) _) _)
  rintro e w3 ⟨rfl, hb3⟩
  rw [HK.out]
  have hB := Below.snoc (Below.drawn ((Below.refl _ w).alloc (Nat.le_refl _) _) _) hb3
  obtain ⟨hc3, hf3⟩ := bcell hb3
  have hz3 : w.heap.size < w3.heap.size := by have := hb3.size; simp at this; omega
  clear hb3
  go_wp2_with fail
  refine (until_ask (t.extract (pos stopB t) t.size) _ (by omega)).mono ?_
  rintro e w4 ⟨rfl, n4, rfl⟩
  rw [HT.out]
  go_wp2_with fail
  refine (pright_any _ _ (by decide)).mono ?_
  rintro e w5 ⟨rfl, rfl⟩
  rw [HB.out]
  go_wp2_with fail
  refine bodyPost_ret (v := urlV (((false, h, ⟨#[47]⟩), 0))) ?res rfl ⟨by rw [HV.out], ?bel⟩
  case res => simp [results, Tryd.results16, go_sem, urlV, *]; try rfl
  case bel => repeat (first | assumption | exact Nat.le_refl _ | refine Below.setCell ?_ ?_ _ | refine Below.drawn ?_ _)
set_option maxHeartbeats 1000000 in
set_option maxRecDepth 100000 in
theorem parse_open_ok (s t : ByteArray) (w : World) (hs : s.size ≤ 9223372036854775806) (ht : t = s.extract 7 s.size) (hm : HasMax w) (h0 : preB s safeS = false) (h1 : preB s openS = true) (h : ByteArray) (hk : canonS (t.extract 0 (pos stopB t)) = some h) (p : ByteArray) (hp : (t.extract (pos stopB t) t.size).extract 0 (pos askB (t.extract (pos stopB t) t.size)) = p) (h2 : p.size ≠ 0) (h3 : pathB p = true) :
    Calls Tryd.prog 16 #[.string s] w fun e w' => e = .returned (urlV (parseO s)) ∧ Below w.heap.size w w' := by
  have hP : parseO s = parseR false t := by unfold parseO; rw [if_neg (by rw [h0]; simp), if_pos h1, ht]
  have HC := Lib.hid (show cutS s openS = t by unfold cutS; rw [if_pos h1, show openS.size = 7 from rfl, ht])
  have hz : t.size ≤ 9223372036854775806 := by rw [ht, ByteArray.size_extract]; omega
  have hz2 : (t.extract 0 (pos stopB t)).size ≤ 9223372036854775806 := by rw [ByteArray.size_extract]; omega
  have hz4 : (t.extract (pos stopB t) t.size).size ≤ 9223372036854775806 := by rw [ByteArray.size_extract]; omega
  have hps : pathS (t.extract (pos stopB t) t.size) = p := by unfold pathS; rw [hp, if_neg h2]
  have HV := Lib.hid (show parseO s = ((false, h, p), 0) by rw [hP]; unfold parseR; rw [hk]; simp only []; rw [hps, if_pos h3])
  have HB := Lib.hid h3
  have g0 : p.toList.isEmpty = false := by rw [← Bool.not_eq_true, empty_iff]; exact h2
  have g1 : p.toList ≠ [] := fun h => by rw [h] at g0; simp at g0
  have hz5 : p.size ≤ 9223372036854775807 := by rw [← hp, ByteArray.size_extract, ByteArray.size_extract]; omega
  have HK := Lib.hid (canonV_some hk)
  have HT := Lib.hid hp
  clear hps h2 h3
  clear hp
  have HM := Lib.hid hm
  have H1 := Lib.hid h1
  have H0 := Lib.hid h0
  clear h0
  clear hP hk hm h1 ht
  go_enter Tryd.func16, Tryd.ntmps16
  go_wp2_with fail
  refine (cutPrefix_any s safeS _ (by omega)).mono ?_
  rintro e w1 ⟨rfl, rfl⟩
  rw [H0.out]
  go_wp2_with fail
  refine (cutPrefix_any s openS _ (by omega)).mono ?_
  rintro e w1 ⟨rfl, rfl⟩
  rw [H1.out, HC.out]
  go_wp2_with fail
  refine (until_stop t _ (by omega)).mono ?_
  rintro e w2 ⟨rfl, n, rfl⟩
  go_wp2_with fail
  refine (canon_any (t.extract 0 (pos stopB t)) _ hz2 ?hm).mono ?_
  case hm => exact max_keep HM.out (Below.drawn ((Below.refl _ _).alloc (Nat.le_refl _) _) _)
  rintro e w3 ⟨rfl, hb3⟩
  rw [HK.out]
  have hB := Below.snoc (Below.drawn ((Below.refl _ w).alloc (Nat.le_refl _) _) _) hb3
  obtain ⟨hc3, hf3⟩ := bcell hb3
  have hz3 : w.heap.size < w3.heap.size := by have := hb3.size; simp at this; omega
  clear hb3
  go_wp2_with fail
  refine (until_ask (t.extract (pos stopB t) t.size) _ (by omega)).mono ?_
  rintro e w4 ⟨rfl, n4, rfl⟩
  rw [HT.out]
  go_wp2_with fail
  refine (pright_any _ _ hz5).mono ?_
  rintro e w5 ⟨rfl, rfl⟩
  rw [HB.out]
  go_wp2_with fail
  refine bodyPost_ret (v := urlV (((false, h, p), 0))) ?res rfl ⟨by rw [HV.out], ?bel⟩
  case res => simp [results, Tryd.results16, go_sem, urlV, *]; try rfl
  case bel => repeat (first | assumption | exact Nat.le_refl _ | refine Below.setCell ?_ ?_ _ | refine Below.drawn ?_ _)
set_option maxHeartbeats 1000000 in
set_option maxRecDepth 100000 in
theorem parse_open_bad (s t : ByteArray) (w : World) (hs : s.size ≤ 9223372036854775806) (ht : t = s.extract 7 s.size) (hm : HasMax w) (h0 : preB s safeS = false) (h1 : preB s openS = true) (h : ByteArray) (hk : canonS (t.extract 0 (pos stopB t)) = some h) (p : ByteArray) (hp : (t.extract (pos stopB t) t.size).extract 0 (pos askB (t.extract (pos stopB t) t.size)) = p) (h2 : p.size ≠ 0) (h3 : pathB p = false) :
    Calls Tryd.prog 16 #[.string s] w fun e w' => e = .returned (urlV (parseO s)) ∧ Below w.heap.size w w' := by
  have hP : parseO s = parseR false t := by unfold parseO; rw [if_neg (by rw [h0]; simp), if_pos h1, ht]
  have HC := Lib.hid (show cutS s openS = t by unfold cutS; rw [if_pos h1, show openS.size = 7 from rfl, ht])
  have hz : t.size ≤ 9223372036854775806 := by rw [ht, ByteArray.size_extract]; omega
  have hz2 : (t.extract 0 (pos stopB t)).size ≤ 9223372036854775806 := by rw [ByteArray.size_extract]; omega
  have hz4 : (t.extract (pos stopB t) t.size).size ≤ 9223372036854775806 := by rw [ByteArray.size_extract]; omega
  have hps : pathS (t.extract (pos stopB t) t.size) = p := by unfold pathS; rw [hp, if_neg h2]
  have HV := Lib.hid (show parseO s = urlE 122 by rw [hP]; unfold parseR; rw [hk]; simp only []; rw [hps, if_neg (by rw [h3]; simp)])
  have HB := Lib.hid h3
  have g0 : p.toList.isEmpty = false := by rw [← Bool.not_eq_true, empty_iff]; exact h2
  have g1 : p.toList ≠ [] := fun h => by rw [h] at g0; simp at g0
  have hz5 : p.size ≤ 9223372036854775807 := by rw [← hp, ByteArray.size_extract, ByteArray.size_extract]; omega
  have HK := Lib.hid (canonV_some hk)
  have HT := Lib.hid hp
  clear hps h2 h3
  clear hp
  have HM := Lib.hid hm
  have H1 := Lib.hid h1
  have H0 := Lib.hid h0
  clear h0
  clear hP hk hm h1 ht
  go_enter Tryd.func16, Tryd.ntmps16
  go_wp2_with fail
  refine (cutPrefix_any s safeS _ (by omega)).mono ?_
  rintro e w1 ⟨rfl, rfl⟩
  rw [H0.out]
  go_wp2_with fail
  refine (cutPrefix_any s openS _ (by omega)).mono ?_
  rintro e w1 ⟨rfl, rfl⟩
  rw [H1.out, HC.out]
  go_wp2_with fail
  refine (until_stop t _ (by omega)).mono ?_
  rintro e w2 ⟨rfl, n, rfl⟩
  go_wp2_with fail
  refine (canon_any (t.extract 0 (pos stopB t)) _ hz2 ?hm).mono ?_
  case hm => exact max_keep HM.out (Below.drawn ((Below.refl _ _).alloc (Nat.le_refl _) _) _)
  rintro e w3 ⟨rfl, hb3⟩
  rw [HK.out]
  have hB := Below.snoc (Below.drawn ((Below.refl _ w).alloc (Nat.le_refl _) _) _) hb3
  obtain ⟨hc3, hf3⟩ := bcell hb3
  have hz3 : w.heap.size < w3.heap.size := by have := hb3.size; simp at this; omega
  clear hb3
  go_wp2_with fail
  refine (until_ask (t.extract (pos stopB t) t.size) _ (by omega)).mono ?_
  rintro e w4 ⟨rfl, n4, rfl⟩
  rw [HT.out]
  go_wp2_with fail
  refine (pright_any _ _ hz5).mono ?_
  rintro e w5 ⟨rfl, rfl⟩
  rw [HB.out]
  go_wp2_with fail
  refine bodyPost_ret (v := urlV (urlE 122)) ?res rfl ⟨by rw [HV.out], ?bel⟩
  case res => simp [results, Tryd.results16, go_sem, urlV, urlE, *]; try rfl
  case bel => repeat (first | assumption | exact Nat.le_refl _ | refine Below.setCell ?_ ?_ _ | refine Below.drawn ?_ _)
end Go.Proofs.YtnjmhkehckhihaaDoor
