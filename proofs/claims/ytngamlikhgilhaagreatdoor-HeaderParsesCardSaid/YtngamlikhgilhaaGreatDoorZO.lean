/- Which parting bytes a cookie's date has is of no account: the plain law, and the walk of DateParted. -/
import Derived.Test.YtngamlikhgilhaaGreatDoorZM
import Derived.ChangeSlices
import Derived.Deep.AppendSrc
import Derived.OwnWalk
import Derived.Deep.CutBlock
import Derived.Deep.DeepCutAuto
namespace Go.Proofs.YtngamlikhgilhaaGreatDoor
open Go.RowKit Go.ChangeShapes Go.WideShapes

def allP (l : List UInt8) : Bool := l.all fun c => partsB (c.toNat : Int)
def byL (p : List UInt8) (c : UInt8) : List UInt8 := if partsB (c.toNat : Int) = true then p else [c]
def partL (p l : List UInt8) : List UInt8 := l.flatMap (byL p)
theorem words_parts (p l : List UInt8) (hp : allP p = true) : wordsA [] (p ++ l) = wordsA [] l := by
  induction p with
  | nil => rfl
  | cons c p ih =>
    unfold allP at hp ih
    rw [List.all_cons, Bool.and_eq_true] at hp
    rw [List.cons_append, wordsA_skip _ _ hp.1, ih hp.2]
theorem words_by (d : UInt8) (q l : List UInt8) (hd : partsB (d.toNat : Int) = true) (hq : allP q = true) : ∀ cur, wordsA cur (partL (d :: q) l) = wordsA cur l := by
  induction l with
  | nil => intro cur; rfl
  | cons c l ih =>
    intro cur
    have e : partL (d :: q) (c :: l) = byL (d :: q) c ++ partL (d :: q) l := List.flatMap_cons
    rw [e]
    cases hc : partsB (c.toNat : Int)
    · have hn : ¬ partsB (c.toNat : Int) = true := by rw [hc]; simp
      rw [byL, if_neg hn]
      show wordsA cur (c :: partL (d :: q) l) = wordsA cur (c :: l)
      rw [wordsA, if_neg hn, ih, wordsA, if_neg hn]
    · rw [byL, if_pos hc]
      show wordsA cur (d :: (q ++ partL (d :: q) l)) = wordsA cur (c :: l)
      rw [wordsA, if_pos hd, words_parts q _ hq, ih, wordsA, if_pos hc]
def partS (p : List UInt8) (s : ByteArray) (k : Nat) : ByteArray := mk (p ++ partL p ((bs s).take k))
theorem cookie_parted (s : ByteArray) (p : List UInt8) (hp : allP p = true) (h0 : 0 < p.length) (k : Nat) (hk : s.size ≤ k) : cookieV (partS p s k) = cookieV s := by
  unfold cookieV wordsS partS
  rw [List.take_of_length_le (by rw [← size_bs]; exact hk), bs_mk, words_parts _ _ hp]
  cases p with
  | nil => cases h0
  | cons d q =>
    unfold allP at hp
    rw [List.all_cons, Bool.and_eq_true] at hp
    rw [words_by d q _ hp.1 hp.2]
theorem partS_zero (p : List UInt8) (s : ByteArray) : mk p = partS p s 0 := by
  unfold partS partL
  simp
theorem take_one (l : List UInt8) (k : Nat) (h : k < l.length) : l.take (k + 1) = l.take k ++ [l.getD k 0] := by
  rw [List.take_succ_eq_append_getElem h]
  simp [h]
theorem partS_yes {p : List UInt8} {s : ByteArray} {k : Nat} (hk : k < s.size) (h : partsB (at_ s k) = true) : partS p s k ++ mk p = partS p s (k + 1) := by
  apply bs_inj
  unfold partS partL
  rw [bs_append, bs_mk, bs_mk, bs_mk, take_one _ _ (by rw [← size_bs]; exact hk), List.flatMap_append, List.append_assoc]
  congr 2
  have : byL p ((bs s).getD k 0) = p := if_pos h
  simp only [List.flatMap_cons, List.flatMap_nil, List.append_nil, this]
theorem one_bs (s : ByteArray) (k : Nat) (hk : k < s.size) : bs (s.extract k (k + 1)) = [(bs s).getD k 0] := by
  have hk' : k < (bs s).length := by rw [← size_bs]; exact hk
  rw [bs_extract, take_one _ _ hk', List.drop_left' (by rw [List.length_take]; omega)]
theorem partS_no {p : List UInt8} {s : ByteArray} {k : Nat} (hk : k < s.size) (h : partsB (at_ s k) = false) : partS p s k ++ s.extract k (k + 1) = partS p s (k + 1) := by
  apply bs_inj
  rw [bs_append, one_bs s k hk]
  unfold partS partL
  rw [bs_mk, bs_mk, take_one _ _ (by rw [← size_bs]; exact hk), List.flatMap_append, List.append_assoc]
  congr 2
  have : byL p ((bs s).getD k 0) = [(bs s).getD k 0] := if_neg (by rw [show partsB ((((bs s).getD k 0).toNat : Nat) : Int) = false from h]; simp)
  simp only [List.flatMap_cons, List.flatMap_nil, List.append_nil, this]
theorem allP_no (l : List UInt8) (k : Nat) (h : k < l.length) (ha : allP (l.take k) = true) (hb : partsB (l[k].toNat : Int) = true) : allP (l.take (k + 1)) = true := by
  unfold allP at *
  rw [List.take_succ_eq_append_getElem h, List.all_append, ha]
  simp [hb]

/-- The slice's bytes are l. -/
def ByRow (w : World) (a : Option Addr) (len cap : Nat) (l : List UInt8) : Prop :=
  l.length = len ∧ len ≤ cap ∧ cap ≤ maxLen ∧ (len = 0 ∨ ∃ b off, a = some ⟨b, off, none⟩ ∧ ∀ i (h : i < l.length), w.cell? ⟨b, off + i, none⟩ = some (.int .u8 (l[i].toNat : Int)))
theorem u8_of {n : Int} (h : (Lit.int .u8 n).wf = true) : ((UInt8.ofNat n.toNat).toNat : Int) = n := by
  have h2 : 0 ≤ n ∧ n ≤ 255 := by simpa [Lit.wf, IntKind.min, IntKind.max, IntKind.bits, IntKind.signed] using h
  rw [UInt8.toNat_ofNat']
  omega
theorem openBy {H : Type} {enc : TypeId × Value → H} {w : World} {base : Nat} {spare : Nat → Bool} {held : Bool} {a : Option Addr} {len cap : Nat} {d : DataW H} {p : List MemPlace}
    (h : DataW.Trod enc Tryz.prog w base spare held 57 (.slice a len cap) d p) : ∃ l, ByRow w a len cap l := by
  obtain ⟨fuel, hf⟩ := h
  rcases open_ints Tryz.underlying57 Tryz.underlying5 (by kernel_rfl) hf with ⟨hcs, _⟩ | ⟨x, l, c, zs, hcs, _, hl, hm, hz, _, hcell, hwf⟩
  · simp [Value.cells] at hcs
    obtain ⟨rfl, rfl, rfl⟩ := hcs
    exact ⟨[], rfl, by omega, by unfold maxLen; omega, .inl rfl⟩
  · simp [Value.cells] at hcs
    obtain ⟨rfl, rfl, rfl⟩ := hcs
    have hlz : len ≤ zs.length := by rw [hz]; split <;> omega
    refine ⟨(zs.take len).map (fun n => UInt8.ofNat n.toNat), by simp; omega, hl, hm, ?_⟩
    rcases Nat.eq_zero_or_pos len with h0 | h0
    · exact .inl h0
    · obtain ⟨b, off, spot⟩ := x
      have hspot : spot = none := by simpa [Addr.add] using World.cell?_spot (hcell 0 (by omega))
      subst hspot
      refine .inr ⟨b, off, rfl, fun j hj => ?_⟩
      have hj2 : j < len := by simp at hj; omega
      have hj3 : j < zs.length := by omega
      have hc := hcell j hj3
      rw [Go.WideShapes.add_plain] at hc
      rw [hc]
      have hm := hwf (zs.getD j 0) (by rw [List.getD_eq_getElem?_getD, List.getElem?_eq_getElem hj3, Option.getD_some]; exact List.getElem_mem hj3)
      have e : ((zs.take len).map (fun n => UInt8.ofNat n.toNat))[j] = UInt8.ofNat (zs.getD j 0).toNat := by
        simp [hj3]
      rw [e, u8_of hm]
end Go.Proofs.YtngamlikhgilhaaGreatDoor
/- Contract: the reference's Words. -/
namespace Go.Proofs.YtngamlikhgilhaaGreatDoor
open Go.RowKit

theorem infoS : (Tryz.prog.info? 9).map (fun i => (i.zero, i.size, i.bytes)) = some (some (.string ⟨#[]⟩), 1, 16) := by kernel_rfl
/-- The value's texts are q; its row lies from block B on. -/
def RT (B : Nat) (w : World) (v : Value) (q : List ByteArray) : Prop :=
  ∃ a cp, v = .slice a q.length cp ∧ q.length ≤ cp ∧ (q = [] ∨ ∃ b, a = some ⟨b, 0, none⟩ ∧ B ≤ b ∧ ∀ i (h : i < q.length), w.cell? ⟨b, i, none⟩ = some (.string q[i]))
theorem RT.of_owns {w : World} {B : Nat} {v : Value} {q : List ByteArray} (h : w.ownsRow B 9 1 v q.length (q.map Value.string)) : RT B w v q := by
  obtain ⟨h1, ⟨rfl, h2⟩ | ⟨g, cap, cur, rfl, hb, hh, hn, hm, hs, ht⟩⟩ := h
  · have : q = [] := List.length_eq_zero_iff.1 h2
    subst this
    exact ⟨none, 0, rfl, Nat.le_refl _, .inl rfl⟩
  · refine ⟨_, cap, rfl, hn, .inr ⟨g, rfl, hb, fun i hi => ?_⟩⟩
    have h3 : (cur.toList.take (q.length * 1))[i]? = (q.map Value.string)[i]? := by rw [ht]
    rw [Nat.mul_one, List.getElem?_take_of_lt hi, List.getElem?_map, List.getElem?_eq_getElem hi] at h3
    simp only [World.cell?, hh]
    simp at h3 ⊢
    rw [h3]
def WordsP (w : World) (s : ByteArray) (e : Ending) (w' : World) : Prop := ∃ v, e = .returned v ∧ Below w.heap.size w w' ∧ RT w.heap.size w' v (wordsS s)
/-- How far the words have been read. -/
def WA (s : ByteArray) (q : List ByteArray) (X : ByteArray) (k : Nat) : Prop := wordsA [] (bs s) = q.map bs ++ wordsA (bs X) ((bs s).drop k)
theorem dropw_one (s : ByteArray) (k : Nat) (hk : k < s.size) : (bs s).drop k = (bs s).getD k 0 :: (bs s).drop (k + 1) := by
  have hk' : k < (bs s).length := by rw [← size_bs]; exact hk
  rw [List.drop_eq_getElem_cons hk']
  congr 1
  simp [hk']
theorem WA.more {s : ByteArray} {q : List ByteArray} {X : ByteArray} {k : Nat} (h : WA s q X k) (hk : k < s.size) (hp : partsB (at_ s k) = false) : WA s q (X ++ s.extract k (k + 1)) (k + 1) := by
  unfold WA at *
  rw [h, dropw_one s k hk, wordsA, if_neg (by rw [show partsB ((((bs s).getD k 0).toNat : Nat) : Int) = false from hp]; simp), bs_append, one_bs s k hk]
theorem WA.skip {s : ByteArray} {q : List ByteArray} {k : Nat} (h : WA s q ⟨#[]⟩ k) (hk : k < s.size) (hp : partsB (at_ s k) = true) : WA s q ⟨#[]⟩ (k + 1) := by
  unfold WA at *
  rw [h, dropw_one s k hk, wordsA, if_pos (show partsB ((((bs s).getD k 0).toNat : Nat) : Int) = true from hp)]
  rfl
theorem WA.cut {s : ByteArray} {q : List ByteArray} {X : ByteArray} {k : Nat} (h : WA s q X k) (hk : k < s.size) (hp : partsB (at_ s k) = true) (hX : bs X ≠ []) : WA s (q ++ [X]) ⟨#[]⟩ (k + 1) := by
  unfold WA at *
  rw [h, dropw_one s k hk, wordsA, if_pos (show partsB ((((bs s).getD k 0).toNat : Nat) : Int) = true from hp), if_neg hX, List.map_append, List.append_assoc]
  rfl
theorem map_back (q : List ByteArray) : (q.map bs).map mk = q := by rw [List.map_map, show (mk ∘ bs) = id from funext mk_bs, List.map_id]
theorem WA.done {s : ByteArray} {q : List ByteArray} {k : Nat} (h : WA s q ⟨#[]⟩ k) (hk : s.size ≤ k) : wordsS s = q := by
  unfold WA at h
  rw [List.drop_eq_nil_of_le (by rw [← size_bs]; exact hk)] at h
  unfold wordsS
  rw [h, show wordsA (bs (⟨#[]⟩ : ByteArray)) [] = [] from rfl, List.append_nil, map_back]
theorem WA.last {s : ByteArray} {q : List ByteArray} {X : ByteArray} {k : Nat} (h : WA s q X k) (hk : s.size ≤ k) (hX : bs X ≠ []) : wordsS s = q ++ [X] := by
  unfold WA at h
  rw [List.drop_eq_nil_of_le (by rw [← size_bs]; exact hk)] at h
  unfold wordsS
  rw [h, wordsA, if_neg hX, List.map_append, map_back]
  rfl
theorem tl_ne {X : ByteArray} (h : bs X ≠ []) : X.toList.isEmpty = false := by
  rw [toL]
  cases hb : bs X with
  | nil => exact absurd hb h
  | cons => rfl
set_option maxHeartbeats 1000000 in
set_option maxRecDepth 100000 in
theorem rwords_any (s : ByteArray) (w : World) (hs : s.size ≤ 1000) : Calls Tryz.prog 100 #[.string s] w (WordsP w s) := by
  obtain ⟨i0, hi, hz0, hz1, hz2⟩ := info_parts infoS
  have own0 : w.ownsRow w.heap.size 9 1 (.slice none 0 0) 0 [] := World.ownsRow_nil w _ _ _
  go_enter Tryz.func100, Tryz.ntmps100
  go_wp2_with fail
  go_loopw [3, 4, 5] (fun v x i wr => ∃ (k : Nat) (X : ByteArray) (q : List ByteArray), k ≤ s.size ∧ X.size ≤ k ∧ x = .string X ∧ i = .int .i64 k ∧ Hid (WA s q X k) ∧ q.length ≤ k ∧ wr.ownsRow w.heap.size 9 1 v q.length (q.map Value.string) ∧ Below w.heap.size w wr) (fun _ _ i _ => s.size - (intOf i).toNat)
  case atStart => exact ⟨0, ⟨#[]⟩, [], Nat.zero_le _, Nat.le_refl _, rfl, rfl, Lib.hid rfl, Nat.le_refl _, own0, Below.refl _ _⟩
  case round =>
    obtain ⟨k, X, q, hk, hX, rfl, rfl, HR, hq, hown, hb⟩ := hrel
    clear own0
    have hz := hb.size
    by_cases hlt : k < s.size
    · have HG := Lib.hid (at_get s k hlt)
      cases hc : partsB (at_ s k)
      case false =>
        have HC := Lib.hid hc
        have H2 := Lib.hid (HR.out.more hlt hc)
        have hez : (s.extract k (k + 1)).size = 1 := by rw [size_bs, one_bs s k hlt]; rfl
        clear hc
        go_wp2_with fail
        refine (rparts_any _ _).mono ?_
        rintro e w' ⟨rfl, rfl⟩
        rw [HG.out, HC.out]
        go_wp2_with fail
        go_roundw
        case rel => exact ⟨k + 1, _, q, by omega, by rw [ByteArray.size_append, hez]; omega, rfl, by go_num, H2, by omega, hown, hb⟩
        case measure => simp [intOf]; omega
      case true =>
        have HC := Lib.hid hc
        by_cases hx : bs X = []
        · obtain rfl : X = ⟨#[]⟩ := bs_inj hx
          have H2 := Lib.hid (HR.out.skip hlt hc)
          clear hc hx
          go_wp2_with fail
          refine (rparts_any _ _).mono ?_
          rintro e w' ⟨rfl, rfl⟩
          rw [HG.out, HC.out]
          go_wp2_with fail
          go_roundw
          case rel => exact ⟨k + 1, ⟨#[]⟩, q, by omega, Nat.zero_le _, rfl, by go_num, H2, by omega, hown, hb⟩
          case measure => simp [intOf]; omega
        · have H2 := Lib.hid (HR.out.cut hlt hc hx)
          have hne := tl_ne hx
          have own1 := hown.alloc (.cells #[.string X] 9)
          clear hown hc hx
          go_wp2_with fail
          refine (rparts_any _ _).mono ?_
          rintro e w' ⟨rfl, rfl⟩
          rw [HG.out, HC.out]
          go_wp2_with (at_builtin; refine wpList_append_own _ rfl (.tmp 26) (.tmp 28) 60 rfl w.heap.size 9 i0 (.string ⟨#[]⟩) 1 16 Tryz.underlying60 hi hz0 hz1 hz2 rfl (by decide) u3 q.length (q.map Value.string) rfl own1 ⟨wr.heap.size, 0, none⟩ 1 1 [.string X] rfl ?c1 ?c2 ?c3 ?c4 ?c5 ?c6 ?_)
          case c1 => simp
          case c2 => exact cell_one_new _ _ _
          case c3 => intro u hu; simp at hu; subst hu; rfl
          case c4 => unfold maxLen; omega
          case c5 => omega
          case c6 => simp; omega
          intro v2 w2 hown2 hg2 hne2
          have hb2 : Below w.heap.size w w2 := (hb.alloc hz _).grown hg2 (by simp; omega) (fun k hk => (own1.lt k hk).1)
          clear hg2 hne2 own1
          go_wp2_with fail
          go_roundw
          case rel => exact ⟨k + 1, ⟨#[]⟩, q ++ [X], by omega, Nat.zero_le _, rfl, by go_num, H2, by simp; omega, by simpa using hown2, hb2⟩
          case measure => simp [intOf]; omega
    · by_cases hx : bs X = []
      · obtain rfl : X = ⟨#[]⟩ := bs_inj hx
        have H2 := Lib.hid (HR.out.done (by omega))
        clear hx
        go_wp2_with fail
        go_ret
        refine ⟨_, rfl, hb, ?_⟩
        rw [H2.out]
        exact RT.of_owns hown
      · have H2 := Lib.hid (HR.out.last (by omega) hx)
        have hne := tl_ne hx
        have own1 := hown.alloc (.cells #[.string X] 9)
        clear hown hx
        go_wp2_with (at_builtin; refine wpList_append_own _ rfl (.tmp 32) (.tmp 34) 60 rfl w.heap.size 9 i0 (.string ⟨#[]⟩) 1 16 Tryz.underlying60 hi hz0 hz1 hz2 rfl (by decide) u3 q.length (q.map Value.string) rfl own1 ⟨wr.heap.size, 0, none⟩ 1 1 [.string X] rfl ?c1 ?c2 ?c3 ?c4 ?c5 ?c6 ?_)
        case c1 => simp
        case c2 => exact cell_one_new _ _ _
        case c3 => intro u hu; simp at hu; subst hu; rfl
        case c4 => unfold maxLen; omega
        case c5 => omega
        case c6 => simp; omega
        intro v2 w2 hown2 hg2 hne2
        have hb2 : Below w.heap.size w w2 := (hb.alloc hz _).grown hg2 (by simp; omega) (fun k hk => (own1.lt k hk).1)
        clear hg2 hne2 own1
        go_wp2_with fail
        go_ret
        refine ⟨_, rfl, hb2, ?_⟩
        rw [H2.out]
        exact RT.of_owns (by simpa using hown2)
end Go.Proofs.YtngamlikhgilhaaGreatDoor
/- Contract: the reference's time. -/
namespace Go.Proofs.YtngamlikhgilhaaGreatDoor
open Go.RowKit

theorem infoI : (Tryz.prog.info? 3).map (fun i => (i.zero, i.size, i.bytes)) = some (some (.int .i64 0), 1, 8) := by kernel_rfl
theorem cell_ltD {w : World} {p : Addr} {v : Value} (h : w.cell? p = some v) : p.block < w.heap.size := by
  unfold World.cell? at h
  rcases Nat.lt_or_ge p.block w.heap.size with h1 | h1
  · exact h1
  · rw [Array.getElem?_eq_none h1] at h
    cases h
/-- What the reference's time hands back. -/
def TimeR (s : ByteArray) (w : World) (e : Ending) (w' : World) : Prop :=
  (timeB s = true ∧ ∃ b cp, e = .returned (.tuple #[.slice (some ⟨b, 0, none⟩) 3 cp, .bool true]) ∧ 3 ≤ cp ∧ w.heap.size ≤ b ∧ b < w'.heap.size ∧ w'.cell? ⟨b, 0, none⟩ = some (.int .i64 (numV s)) ∧ w'.cell? ⟨b, 1, none⟩ = some (.int .i64 (numV (time2 s))) ∧ w'.cell? ⟨b, 2, none⟩ = some (.int .i64 (numV (time2 (time2 s)))) ∧ Below w.heap.size w w') ∨
  (timeB s = false ∧ e = .returned (.tuple #[.slice none 0 0, .bool false]) ∧ Below w.heap.size w w')
theorem TimeR.of_owns {s : ByteArray} {w w' : World} {v : Value} (ht : timeB s = true) (hb : Below w.heap.size w w') (h : w'.ownsRow w.heap.size 3 1 v 3 ([numV s, numV (time2 s), numV (time2 (time2 s))].map (Value.int .i64))) : TimeR s w (.returned (.tuple #[v, .bool true])) w' := by
  obtain ⟨h1, ⟨rfl, h2⟩ | ⟨g, cap, cur, rfl, hB, hh, hn, hm, hs, hl⟩⟩ := h
  · cases h2
  · have c : ∀ i x, i < 3 → ([numV s, numV (time2 s), numV (time2 (time2 s))].map (Value.int .i64))[i]? = some x → w'.cell? ⟨g, i, none⟩ = some x := by
      intro i x hi hx
      have h3 : (cur.toList.take (3 * 1))[i]? = some x := by rw [hl]; exact hx
      rw [Nat.mul_one, List.getElem?_take_of_lt hi] at h3
      simp only [World.cell?, hh]
      simpa using h3
    have c0 := c 0 _ (by decide) rfl
    exact .inl ⟨ht, g, cap, rfl, hn, hB, cell_ltD c0, c0, c 1 _ (by decide) rfl, c 2 _ (by decide) rfl, hb⟩
/-- The rounds' heads. -/
def TQ (s : ByteArray) (k : Nat) (X : ByteArray) (q : List Int) : Prop :=
  (k = 0 ∧ X = s ∧ q = []) ∨
  (k = 1 ∧ X = time2 s ∧ q = [numV s] ∧ (oneTwo s && colonB (afterD s)) = true) ∨
  (k = 2 ∧ X = time2 (time2 s) ∧ q = [numV s, numV (time2 s)] ∧ (oneTwo s && colonB (afterD s)) = true ∧ (oneTwo (time2 s) && colonB (afterD (time2 s))) = true) ∨
  (k = 3 ∧ q = [numV s, numV (time2 s), numV (time2 (time2 s))] ∧ timeB s = true)
theorem TQ.no12 {s X : ByteArray} {k : Nat} {q : List Int} (h : TQ s k X q) (hk : k < 3) (hx : oneTwo X = false) : timeB s = false := by
  rcases h with ⟨rfl, rfl, -⟩ | ⟨rfl, rfl, -, -⟩ | ⟨rfl, rfl, -, -⟩ | ⟨rfl, -⟩
  · exact time_f1 (by rw [hx]; rfl)
  · exact time_f2 (by rw [hx]; rfl)
  · exact time_f3 hx
  · omega
theorem TQ.nocolon {s X : ByteArray} {k : Nat} {q : List Int} (h : TQ s k X q) (hk : k < 2) (hx : colonB (afterD X) = false) : timeB s = false := by
  rcases h with ⟨rfl, rfl, -⟩ | ⟨rfl, rfl, -, -⟩ | ⟨rfl, rfl, -, -⟩ | ⟨rfl, -⟩
  · exact time_f1 (by rw [hx]; simp)
  · exact time_f2 (by rw [hx]; simp)
  · omega
  · omega
theorem TQ.more {s X : ByteArray} {k : Nat} {q : List Int} (h : TQ s k X q) (hk : k < 2) (h1 : oneTwo X = true) (hx : colonB (afterD X) = true) : TQ s (k + 1) (tailS (afterD X)) (q ++ [numV X]) := by
  rcases h with ⟨rfl, rfl, rfl⟩ | ⟨rfl, rfl, rfl, a⟩ | ⟨rfl, rfl, -, -⟩ | ⟨rfl, -⟩
  · exact .inr (.inl ⟨rfl, rfl, rfl, by rw [h1, hx]; rfl⟩)
  · exact .inr (.inr (.inl ⟨rfl, rfl, rfl, a, by rw [h1, hx]; rfl⟩))
  · omega
  · omega
theorem TQ.last {s X : ByteArray} {q : List Int} (h : TQ s 2 X q) (h1 : oneTwo X = true) (Y : ByteArray) : TQ s 3 Y (q ++ [numV X]) := by
  rcases h with ⟨h0, -⟩ | ⟨h0, -⟩ | ⟨-, rfl, rfl, a, b⟩ | ⟨h0, -⟩
  · cases h0
  · cases h0
  · exact .inr (.inr (.inr ⟨rfl, rfl, time_t a b h1⟩))
  · cases h0
theorem TQ.done {s X : ByteArray} {k : Nat} {q : List Int} (h : TQ s k X q) (hk : 3 ≤ k) : q = [numV s, numV (time2 s), numV (time2 (time2 s))] ∧ timeB s = true := by
  rcases h with ⟨h0, -⟩ | ⟨h0, -⟩ | ⟨h0, -⟩ | ⟨-, a, b⟩
  · omega
  · omega
  · omega
  · exact ⟨a, b⟩
theorem TQ.len {s X : ByteArray} {k : Nat} {q : List Int} (h : TQ s k X q) : q.length = k ∧ k ≤ 3 := by
  rcases h with ⟨rfl, -, rfl⟩ | ⟨rfl, -, rfl, -⟩ | ⟨rfl, -, rfl, -⟩ | ⟨rfl, rfl, -⟩ <;> exact ⟨rfl, by decide⟩
theorem colon_at {Y : ByteArray} (h : 0 < Y.size) : colonB Y = (at_ Y 0 == 58) := by
  have h2 : 0 < (bs Y).length := by rw [← size_bs]; exact h
  unfold colonB at_
  cases hb : bs Y with
  | nil => rw [hb] at h2; cases h2
  | cons c l =>
    simp only [List.head?_cons, List.getD_cons_zero]
    rw [Bool.eq_iff_iff]
    simp only [beq_iff_eq, Option.some.injEq]
    constructor
    · rintro rfl; rfl
    · intro h3; exact UInt8.toNat_inj.1 (by simpa using (by omega : c.toNat = 58))
set_option maxHeartbeats 2000000 in
set_option maxRecDepth 100000 in
theorem rtime_any (s : ByteArray) (w : World) (hs : s.size ≤ 9223372036854775806) : Calls Tryz.prog 119 #[.string s] w (TimeR s w) := by
  obtain ⟨i0, hi, hz0, hz1, hz2⟩ := info_parts infoI
  have own0 : w.ownsRow w.heap.size 3 1 (.slice none 0 0) 0 [] := World.ownsRow_nil w _ _ _
  go_enter Tryz.func119, Tryz.ntmps119
  go_wp2_with fail
  go_loopw [0, 4, 5] (fun x v i wr => ∃ (k : Nat) (X : ByteArray) (q : List Int), x = .string X ∧ X.size ≤ 9223372036854775806 ∧ i = .int .i64 k ∧ k ≤ 3 ∧ Hid (TQ s k X q) ∧ q.length = k ∧ wr.ownsRow w.heap.size 3 1 v q.length (q.map (Value.int .i64)) ∧ Below w.heap.size w wr) (fun _ _ i _ => 3 - (intOf i).toNat)
  case atStart => exact ⟨0, s, [], rfl, hs, rfl, by decide, Lib.hid (.inl ⟨rfl, rfl, rfl⟩), rfl, own0, Below.refl _ _⟩
  case round =>
    obtain ⟨k, X, q, rfl, hX, rfl, hk, HR, hq, hown, hb⟩ := hrel
    clear own0
    have hz := hb.size
    by_cases hlt : k < 3
    · cases h12 : oneTwo X
      · have HN := Lib.hid (HR.out.no12 hlt h12)
        have h3 : ndig X < 1 ∨ (1 ≤ ndig X ∧ 2 < ndig X) := by
          have := oneTwo_iff X
          rw [h12] at this
          simp at this
          omega
        clear h12
        rcases h3 with h3 | ⟨h3, h4⟩
        case' inl => have e1 : decide ((ndig X : Int) < 1) = true := by simp; omega
        case' inr =>
          have e1 : decide ((ndig X : Int) < 1) = false := by simp; omega
          have e2 : decide (2 < (ndig X : Int)) = true := by simp; omega
        all_goals
          go_wp2_with fail
          refine (rdigs_any X _ (by omega)).mono ?_
          rintro e w' ⟨rfl, rfl⟩
          go_wp2_with fail
          go_ret2
          exact .inr ⟨HN.out, rfl, hb⟩
      · have h3 := (oneTwo_iff X).1 h12
        obtain ⟨h3, h4⟩ := h3
        have e1 : decide ((ndig X : Int) < 1) = false := by simp; omega
        have e2 : decide (2 < (ndig X : Int)) = false := by simp; omega
        have hle := ndig_le X
        have HU := Lib.hid (unfV_some (unf_num X h3 (by omega)))
        have zA := after_size X
        have hez : (X.extract 0 (ndig X)).size ≤ 9223372036854775807 := by rw [ByteArray.size_extract]; omega
        have own1 := hown.alloc (.cells #[.int .i64 (numV X)] 3)
        have HA : Hid (X.extract (ndig X) X.size = afterD X) := Lib.hid rfl
        clear hown
        by_cases hk2 : k < 2
        · cases hcol : colonB (afterD X)
          · have HN := Lib.hid (HR.out.nocolon hk2 hcol)
            have HO := Lib.hid hcol
            clear h12 hcol
            go_wp2_with fail
            refine (rdigs_any X _ (by omega)).mono ?_
            rintro e w' ⟨rfl, rfl⟩
            go_wp2_with fail
            refine (runfixed_any (X.extract 0 (ndig X)) _ hez).mono ?_
            rintro e w' ⟨rfl, rfl⟩
            rw [HU.out]
            go_wp2_with (at_builtin; refine wpList_append_own _ rfl (.tmp 28) (.tmp 30) 126 rfl w.heap.size 3 i0 (.int .i64 0) 1 8 Tryz.underlying126 hi hz0 hz1 hz2 rfl (by decide) u4 q.length (q.map (Value.int .i64)) rfl own1 ⟨wr.heap.size, 0, none⟩ 1 1 [.int .i64 (numV X)] rfl ?c1 ?c2 ?c3 ?c4 ?c5 ?c6 ?_)
            case c1 => simp
            case c2 => exact cell_one_new _ _ _
            case c3 => intro u hu; simp at hu; subst hu; rfl
            case c4 => unfold maxLen; omega
            case c5 => omega
            case c6 => simp; omega
            intro v2 w2 hown2 hg2 hne2
            have hb2 : Below w.heap.size w w2 := (hb.alloc hz _).grown hg2 (by simp; omega) (fun k hk => (own1.lt k hk).1)
            clear hg2 hne2 own1
            go_upto_region 12 with fail
            generalize hY : X.extract (ndig X) X.size = Y at *
            have hcol' : colonB Y = false := by rw [← hY]; exact HO.out
            rcases Nat.eq_zero_or_pos Y.size with hy0 | hy0
            case' inl => have e3 : ((Y.size : Int) == 0) = true := by rw [hy0]; rfl
            case' inr =>
              have e3 : ((Y.size : Int) == 0) = false := beq_eq_false_iff_ne.2 (by omega)
              have e4 : (((Y[0]'hy0).toNat : Int) != 58) = true := by rw [at_get Y 0 hy0, bne, ← colon_at hy0, hcol']; rfl
            all_goals
              go_wp2_with fail
              go_ret2
              exact .inr ⟨HN.out, rfl, hb2⟩
          · have HM := Lib.hid (HR.out.more hk2 h12 hcol)
            have hcs := colon_size hcol
            have HO := Lib.hid hcol
            clear h12 hcol
            go_wp2_with fail
            refine (rdigs_any X _ (by omega)).mono ?_
            rintro e w' ⟨rfl, rfl⟩
            go_wp2_with fail
            refine (runfixed_any (X.extract 0 (ndig X)) _ hez).mono ?_
            rintro e w' ⟨rfl, rfl⟩
            rw [HU.out]
            go_wp2_with (at_builtin; refine wpList_append_own _ rfl (.tmp 28) (.tmp 30) 126 rfl w.heap.size 3 i0 (.int .i64 0) 1 8 Tryz.underlying126 hi hz0 hz1 hz2 rfl (by decide) u4 q.length (q.map (Value.int .i64)) rfl own1 ⟨wr.heap.size, 0, none⟩ 1 1 [.int .i64 (numV X)] rfl ?c1 ?c2 ?c3 ?c4 ?c5 ?c6 ?_)
            case c1 => simp
            case c2 => exact cell_one_new _ _ _
            case c3 => intro u hu; simp at hu; subst hu; rfl
            case c4 => unfold maxLen; omega
            case c5 => omega
            case c6 => simp; omega
            intro v2 w2 hown2 hg2 hne2
            have hb2 : Below w.heap.size w w2 := (hb.alloc hz _).grown hg2 (by simp; omega) (fun k hk => (own1.lt k hk).1)
            clear hg2 hne2 own1
            go_upto_region 12 with fail
            generalize hY : X.extract (ndig X) X.size = Y at *
            have hy0 : 0 < Y.size := by rw [← hY]; exact hcs
            have e3 : ((Y.size : Int) == 0) = false := beq_eq_false_iff_ne.2 (by omega)
            have e4 : (((Y[0]'hy0).toNat : Int) != 58) = false := by rw [at_get Y 0 hy0, bne, ← colon_at hy0, ← hY]; show (!(colonB (afterD X))) = false; rw [HO.out]; rfl
            have zY : Y.size ≤ X.size := by rw [← hY]; exact zA
            have HYY := Lib.hid hY
            clear hY
            go_wp2_with fail
            go_roundw
            case rel => exact ⟨k + 1, Y.extract 1 Y.size, q ++ [numV X], rfl, by rw [ByteArray.size_extract]; omega, by go_num, by omega, by rw [← HYY.out]; exact HM, by simp; omega, by simpa [hq] using hown2, hb2⟩
            case measure => simp [intOf]; omega
        · obtain rfl : k = 2 := by omega
          have HM := Lib.hid (HR.out.last h12 (afterD X))
          clear h12
          go_wp2_with fail
          refine (rdigs_any X _ (by omega)).mono ?_
          rintro e w' ⟨rfl, rfl⟩
          go_wp2_with fail
          refine (runfixed_any (X.extract 0 (ndig X)) _ hez).mono ?_
          rintro e w' ⟨rfl, rfl⟩
          rw [HU.out]
          go_wp2_with (at_builtin; refine wpList_append_own _ rfl (.tmp 28) (.tmp 30) 126 rfl w.heap.size 3 i0 (.int .i64 0) 1 8 Tryz.underlying126 hi hz0 hz1 hz2 rfl (by decide) u4 q.length (q.map (Value.int .i64)) rfl own1 ⟨wr.heap.size, 0, none⟩ 1 1 [.int .i64 (numV X)] rfl ?c1 ?c2 ?c3 ?c4 ?c5 ?c6 ?_)
          case c1 => simp
          case c2 => exact cell_one_new _ _ _
          case c3 => intro u hu; simp at hu; subst hu; rfl
          case c4 => unfold maxLen; omega
          case c5 => omega
          case c6 => simp; omega
          intro v2 w2 hown2 hg2 hne2
          have hb2 : Below w.heap.size w w2 := (hb.alloc hz _).grown hg2 (by simp; omega) (fun k hk => (own1.lt k hk).1)
          clear hg2 hne2 own1
          go_wp2_with fail
          go_roundw
          case rel => exact ⟨3, afterD X, q ++ [numV X], rfl, by omega, rfl, by decide, HM, by simp; omega, by simpa [hq] using hown2, hb2⟩
          case measure => simp [intOf]
    · have HD := Lib.hid (HR.out.done (by omega))
      go_wp2_with fail
      go_ret2
      obtain ⟨rfl, ht⟩ := HD.out
      exact TimeR.of_owns ht hb hown
end Go.Proofs.YtngamlikhgilhaaGreatDoor

