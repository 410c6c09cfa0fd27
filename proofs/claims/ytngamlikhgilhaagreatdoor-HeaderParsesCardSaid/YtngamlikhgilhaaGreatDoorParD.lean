/- Contracts of the reference's attribute (whole) and Parts. -/
import Derived.Test.YtngamlikhgilhaaGreatDoorParC
import Derived.Deep.AppendSrc
import Derived.OwnWalk
namespace Go.Proofs.YtngamlikhgilhaaGreatDoor
open Go.RowKit Go.Shelf

theorem rattr_any (h : Hd) (x v : ByteArray) (w : World) (hv : v.size ≤ 1000) :
    Calls Tryz.prog 27 #[hdA h, .string (lowS x), .string v] w fun e w' => e = .returned (hdA (attK (kindN x) h v)) ∧ Below w.heap.size w w' := by
  obtain ⟨nm, vl, dm, pt, ex, se, ho, st⟩ := h
  have hle := (kind_low (x := x) (k := kindN x) rfl).2.2.2.2.2.2.2
  have N0 := fun h => kn_no0 (x := x) h
  have N2 := fun h => kn_no2 (x := x) h
  have N3 := fun h => kn_no3 (x := x) h
  have N4 := fun h => kn_no4 (x := x) h
  have N5 := fun h => kn_no5 (x := x) h
  have N6 := fun h => kn_no6 (x := x) h
  have Y0 := fun h => kn_yes0 (x := x) h
  have Y2 := fun h => kn_yes2 (x := x) h
  have Y3 := fun h => kn_yes3 (x := x) h
  have Y4 := fun h => kn_yes4 (x := x) h
  have Y5 := fun h => kn_yes5 (x := x) h
  have Y6 := fun h => kn_yes6 (x := x) h
  generalize lowS x = y at *
  generalize kindN x = k at *
  match k, hle with
  | 0, _ => exact attr_none nm vl dm pt ex se ho st y v w hv (N0 (by decide)) (N2 (by decide)) (N3 (by decide)) (N4 (by decide)) (N5 (by decide)) (N6 (by decide))
  | 2, _ => exact attr_none nm vl dm pt ex se ho st y v w hv (N0 (by decide)) (N2 (by decide)) (N3 (by decide)) (N4 (by decide)) (N5 (by decide)) (N6 (by decide))
  | 1, _ =>
    cases hc : cookO v with
    | none =>
      rw [show attK 1 (⟨nm, vl, dm, pt, ex, se, ho, st⟩ : Hd) v = ⟨nm, vl, dm, pt, ex, se, ho, st⟩ by
        rw [show attK 1 (⟨nm, vl, dm, pt, ex, se, ho, st⟩ : Hd) v = (match cookO v with | some t => { (⟨nm, vl, dm, pt, ex, se, ho, st⟩ : Hd) with ex := clampN t } | none => ⟨nm, vl, dm, pt, ex, se, ho, st⟩) from rfl, hc]]
      exact attr_1a nm vl dm pt ex se ho st y v w hv (Y0 rfl) hc
    | some t =>
      rw [show attK 1 (⟨nm, vl, dm, pt, ex, se, ho, st⟩ : Hd) v = ⟨nm, vl, dm, pt, clampN t, se, ho, st⟩ by
        rw [show attK 1 (⟨nm, vl, dm, pt, ex, se, ho, st⟩ : Hd) v = (match cookO v with | some t => { (⟨nm, vl, dm, pt, ex, se, ho, st⟩ : Hd) with ex := clampN t } | none => ⟨nm, vl, dm, pt, ex, se, ho, st⟩) from rfl, hc]]
      exact attr_1b nm vl dm pt ex se ho st y v w hv (Y0 rfl) t hc
  | 3, _ =>
    have e : attK 3 (⟨nm, vl, dm, pt, ex, se, ho, st⟩ : Hd) v = (if domS v = ⟨#[]⟩ then (⟨nm, vl, dm, pt, ex, se, ho, st⟩ : Hd) else ⟨nm, vl, domS v, pt, ex, se, ho, st⟩) := rfl
    by_cases h0 : v.size = 0
    · have hv0 : v = ⟨#[]⟩ := bs_inj (List.eq_nil_of_length_eq_zero (by rw [← size_bs]; exact h0))
      rw [e, if_pos (by rw [hv0]; exact dom_empty)]
      exact attr_3a nm vl dm pt ex se ho st y v w hv (N0 (by decide)) (Y2 rfl) h0
    · have h0' : 0 < v.size := by omega
      by_cases hc : v[0].toNat = 46
      · by_cases h1 : v.size = 1
        · have hx : v.extract 1 v.size = ⟨#[]⟩ := bs_inj (List.eq_nil_of_length_eq_zero (by rw [← size_bs, ByteArray.size_extract]; omega))
          rw [e, if_pos (by rw [dom_dot h0' hc, hx]; rfl)]
          exact attr_3b nm vl dm pt ex se ho st y v w hv (N0 (by decide)) (Y2 rfl) h0' hc h1
        · rw [e, dom_dot h0' hc, if_neg (fun h9 => by have h8 := congrArg ByteArray.size h9; rw [lowS_sz, ByteArray.size_extract] at h8; have : (⟨#[]⟩ : ByteArray).size = 0 := rfl; omega)]
          exact attr_3c nm vl dm pt ex se ho st y v w hv (N0 (by decide)) (Y2 rfl) h0' hc h1
      · rw [e, dom_nodot h0' hc, if_neg (fun h9 => by have h8 := congrArg ByteArray.size h9; rw [lowS_sz] at h8; have : (⟨#[]⟩ : ByteArray).size = 0 := rfl; omega)]
        exact attr_3d nm vl dm pt ex se ho st y v w hv (N0 (by decide)) (Y2 rfl) h0' hc
  | 4, _ =>
    have e : attK 4 (⟨nm, vl, dm, pt, ex, se, ho, st⟩ : Hd) v = ⟨nm, vl, dm, if preB v ⟨#[47]⟩ = true then v else ⟨#[]⟩, ex, se, ho, st⟩ := rfl
    by_cases h0 : v.size = 0
    · have hv0 : v = ⟨#[]⟩ := bs_inj (List.eq_nil_of_length_eq_zero (by rw [← size_bs]; exact h0))
      rw [e, if_neg (by rw [hv0, pre_none]; decide)]
      exact attr_4a nm vl dm pt ex se ho st y v w hv (N0 (by decide)) (N2 (by decide)) (Y3 rfl) hv0
    · have h0' : 0 < v.size := by omega
      by_cases hc : v[0].toNat = 47
      · rw [e, if_pos (by rw [pre_way h0', show v[0] = 47 from UInt8.toNat.inj hc]; rfl)]
        exact attr_4c nm vl dm pt ex se ho st y v w hv (N0 (by decide)) (N2 (by decide)) (Y3 rfl) h0' hc
      · rw [e, if_neg (by rw [pre_way h0', beq_iff_eq]; exact fun h9 => hc (by rw [h9]; rfl))]
        exact attr_4b nm vl dm pt ex se ho st y v w hv (N0 (by decide)) (N2 (by decide)) (Y3 rfl) h0' hc
  | 5, _ => exact attr_5 nm vl dm pt ex se ho st y v w hv (N0 (by decide)) (N2 (by decide)) (N3 (by decide)) (Y4 rfl)
  | 6, _ => exact attr_6 nm vl dm pt ex se ho st y v w hv (N0 (by decide)) (N2 (by decide)) (N3 (by decide)) (N4 (by decide)) (Y5 rfl)
  | 7, _ => exact attr_7 nm vl dm pt ex se ho st y v w hv (N0 (by decide)) (N2 (by decide)) (N3 (by decide)) (N4 (by decide)) (N5 (by decide)) (Y6 rfl)
/-- A part's cells. -/
def prtC (l : List UInt8) : List Value := [.string (nameS (mk l)), .string (valueS (mk l)), .bool (hasS (mk l))]
def prtsC (q : List (List UInt8)) : List Value := q.flatMap prtC
theorem prtsC_len (q : List (List UInt8)) : (prtsC q).length = q.length * 3 := by
  induction q with
  | nil => rfl
  | cons x q ih => rw [show prtsC (x :: q) = prtC x ++ prtsC q from rfl, List.length_append, ih, List.length_cons]; show 3 + _ = _; omega
theorem prtsC_at (q : List (List UInt8)) (i j : Nat) (hi : i < q.length) (hj : j < 3) : (prtsC q)[i * 3 + j]? = (prtC q[i])[j]? := by
  induction q generalizing i with
  | nil => cases hi
  | cons x q ih =>
    rw [show prtsC (x :: q) = prtC x ++ prtsC q from rfl]
    cases i with
    | zero => rw [Nat.zero_mul, Nat.zero_add, List.getElem?_append_left (by show j < 3; exact hj)]; rfl
    | succ i =>
      rw [List.getElem?_append_right (by show 3 ≤ _; omega), show (i + 1) * 3 + j - (prtC x).length = i * 3 + j from by show (i + 1) * 3 + j - 3 = _; omega]
      exact ih i (by simpa using hi)
theorem prtsC_snoc (q : List (List UInt8)) (x : List UInt8) : prtsC (q ++ [x]) = prtsC q ++ prtC x := by
  unfold prtsC
  rw [List.flatMap_append]
  simp
/-- The value's parts are q; their row lies in block b. -/
structure PT (B b cp : Nat) (w : World) (q : List (List UInt8)) : Prop where
  le : q.length ≤ cp
  lo : B ≤ b
  lt : b < w.heap.size
  at_ : ∀ i (h : i < q.length) j, j < 3 → w.cell? ⟨b, i * 3 + j, none⟩ = (prtC q[i])[j]?
theorem PT.keep {B b cp : Nat} {w w' : World} {q : List (List UInt8)} (H : PT B b cp w q) (hb : Below w.heap.size w w') : PT B b cp w' q :=
  ⟨H.le, H.lo, Nat.lt_of_lt_of_le H.lt hb.size, fun i h j hj => (hb.cell (p := ⟨b, i * 3 + j, none⟩) H.lt).trans (H.at_ i h j hj)⟩
theorem PT.of_owns {w : World} {B : Nat} {v : Value} {q : List (List UInt8)} (h : w.ownsRow B 53 3 v q.length (prtsC q)) (hne : q ≠ []) : ∃ b cp, v = .slice (some ⟨b, 0, none⟩) q.length cp ∧ PT B b cp w q := by
  obtain ⟨h1, ⟨rfl, h2⟩ | ⟨g, cap, cur, rfl, hb, hh, hn, hm, hs, ht⟩⟩ := h
  · exact absurd (List.length_eq_zero_iff.1 h2) hne
  · refine ⟨g, cap, rfl, hn, hb, (Array.getElem?_eq_some_iff.1 hh).1, fun i hi j hj => ?_⟩
    have h3 : (cur.toList.take (q.length * 3))[i * 3 + j]? = (prtsC q)[i * 3 + j]? := by rw [ht]
    rw [List.getElem?_take_of_lt (by omega), prtsC_at q i j hi hj] at h3
    simp only [World.cell?, hh]
    rw [← h3]
    simp
theorem infoPart : (Tryz.prog.info? 53).map (fun i => (i.zero, i.size, i.bytes)) = some (some (.agg #[.string ⟨#[]⟩, .string ⟨#[]⟩, .bool false]), 3, 40) := by kernel_rfl
/-- How far the parts have been read. -/
def PR (s : ByteArray) (q : List (List UInt8)) (f k : Nat) : Prop :=
  (k ≤ s.size ∧ f ≤ k ∧ segs (bs s) = q ++ segs ((bs s).drop f) ∧ ∀ x ∈ ((bs s).drop f).take (k - f), x ≠ 59) ∨ (k = s.size + 1 ∧ segs (bs s) = q)
theorem take_drop (l : List UInt8) (f k : Nat) (hf : f ≤ k) (hk : k < l.length) : (l.drop f).take (k + 1 - f) = (l.drop f).take (k - f) ++ [l[k]] := by
  have h1 : k - f < (l.drop f).length := by rw [List.length_drop]; omega
  rw [show k + 1 - f = k - f + 1 by omega, List.take_succ_eq_append_getElem h1]
  congr 2
  rw [List.getElem_drop]
  congr 1
  omega
theorem PR.more {s : ByteArray} {q : List (List UInt8)} {f k : Nat} (h : PR s q f k) (hk : k < s.size) (hc : s[k].toNat ≠ 59) : PR s q f (k + 1) := by
  rcases h with ⟨h1, h2, h3, h4⟩ | ⟨h1, _⟩
  · refine .inl ⟨by omega, by omega, h3, fun x hx => ?_⟩
    rw [take_drop _ f k h2 (by rw [← size_bs]; exact hk)] at hx
    rcases List.mem_append.1 hx with hx | hx
    · exact h4 x hx
    · rw [List.mem_singleton.1 hx]
      exact fun h9 => hc (congrArg UInt8.toNat h9)
  · omega
theorem drop_split (l : List UInt8) (f k : Nat) (hf : f ≤ k) (hk : k < l.length) : l.drop f = (l.drop f).take (k - f) ++ l[k] :: l.drop (k + 1) := by
  conv => lhs; rw [← List.take_append_drop (k - f) (l.drop f)]
  congr 1
  rw [List.drop_drop, show f + (k - f) = k by omega, List.drop_eq_getElem_cons hk]
theorem PR.cut {s : ByteArray} {q : List (List UInt8)} {f k : Nat} (h : PR s q f k) (hk : k < s.size) (hc : s[k].toNat = 59) : PR s (q ++ [((bs s).drop f).take (k - f)]) (k + 1) (k + 1) := by
  have hk' : k < (bs s).length := by rw [← size_bs]; exact hk
  rcases h with ⟨h1, h2, h3, h4⟩ | ⟨h1, _⟩
  · refine .inl ⟨by omega, by omega, ?_, fun x hx => by rw [Nat.sub_self, List.take_zero] at hx; cases hx⟩
    rw [h3, drop_split _ f k h2 hk', show (bs s)[k] = 59 from UInt8.toNat.inj hc, segs_app, segs_one h4, ← List.append_assoc]
    congr 2
    rw [← show (bs s)[k] = 59 from UInt8.toNat.inj hc, ← drop_split _ f k h2 hk']
  · omega
theorem PR.last {s : ByteArray} {q : List (List UInt8)} {f : Nat} (h : PR s q f s.size) : PR s (q ++ [((bs s).drop f).take (s.size - f)]) (s.size + 1) (s.size + 1) := by
  rcases h with ⟨h1, h2, h3, h4⟩ | ⟨h1, _⟩
  · have e : ((bs s).drop f).take (s.size - f) = (bs s).drop f := List.take_of_length_le (by rw [List.length_drop, ← size_bs]; exact Nat.le_refl _)
    rw [e] at h4 ⊢
    exact .inr ⟨rfl, by rw [h3, segs_one h4]⟩
  · omega
theorem ext_bs (s : ByteArray) (f k : Nat) : bs (s.extract f k) = ((bs s).drop f).take (k - f) := by
  rw [bs_extract, List.drop_take]
theorem own_keep {w w' : World} {B : Nat} {e : TypeId} {z : Nat} {v : Value} {n : Nat} {xs : List Value} (h : w.ownsRow B e z v n xs) (hb : Below w.heap.size w w') : w'.ownsRow B e z v n xs := by
  obtain ⟨h1, h2 | ⟨g, cap, cur, e1, e2, e3, e4⟩⟩ := h
  · exact ⟨h1, .inl h2⟩
  · exact ⟨h1, .inr ⟨g, cap, cur, e1, e2, (hb.block g (Array.getElem?_eq_some_iff.1 e3).1).trans e3, e4⟩⟩
def PartsP (w : World) (s : ByteArray) (e : Ending) (w' : World) : Prop := ∃ b cp, e = .returned (.slice (some ⟨b, 0, none⟩) (segs (bs s)).length cp) ∧ Below w.heap.size w w' ∧ PT w.heap.size b cp w' (segs (bs s))
set_option maxHeartbeats 1000000 in
set_option maxRecDepth 100000 in
theorem rparts16_any (s : ByteArray) (w : World) (hs : s.size ≤ 1000) : Calls Tryz.prog 25 #[.string s] w (PartsP w s) := by
  obtain ⟨i0, hi, hz0, hz1, hz2⟩ := info_parts infoPart
  have own0 : w.ownsRow w.heap.size 53 3 (.slice none 0 0) 0 [] := World.ownsRow_nil w _ _ _
  have hpr0 : PR s [] 0 0 := .inl ⟨Nat.zero_le _, Nat.le_refl _, rfl, fun x hx => by cases hx⟩
  go_enter Tryz.func25, Tryz.ntmps25
  go_wp2_with fail
  go_loopw [3, 4, 5] (fun v fr i wr => ∃ (k f : Nat) (q : List (List UInt8)), k ≤ s.size + 1 ∧ f ≤ k ∧ fr = .int .i64 f ∧ i = .int .i64 k ∧ Hid (PR s q f k) ∧ q.length ≤ k ∧ wr.ownsRow w.heap.size 53 3 v q.length (prtsC q) ∧ Below w.heap.size w wr) (fun _ _ i _ => s.size + 1 - (intOf i).toNat)
  case atStart => exact ⟨0, 0, [], Nat.zero_le _, Nat.le_refl _, rfl, rfl, Lib.hid hpr0, Nat.le_refl _, own0, Below.refl _ _⟩
  case round =>
    obtain ⟨k, f, q, hk, hf, rfl, rfl, HR, hq, hown, hb⟩ := hrel
    clear own0 hpr0
    have hz := hb.size
    by_cases hlt : k < s.size
    · by_cases hc : s[k].toNat = 59
      · have H2 := Lib.hid (HR.out.cut hlt hc)
        have hX := ext_bs s f k
        have hXs : (s.extract f k).size ≤ 1000 := by rw [ByteArray.size_extract]; omega
        have hf2 : (f : Int) ≤ (k : Int) := by omega
        obtain ⟨X, eX⟩ : ∃ X, X = s.extract f k := ⟨_, rfl⟩
        rw [← eX] at hX hXs
        have HX := Lib.hid (show prtC (((bs s).drop f).take (k - f)) = [.string (trimS (mk (cutL 61 (bs X)).1)), .string (trimS (mk (cutL 61 (bs X)).2.1)), .bool (cutL 61 (bs X)).2.2] by rw [← hX]; rfl)
        have HC := Lib.hid (show cutV3 61 X = .tuple #[.string (mk (cutL 61 (bs X)).1), .string (mk (cutL 61 (bs X)).2.1), .bool (cutL 61 (bs X)).2.2] from rfl)
        have z1 : (mk (cutL 61 (bs X)).1).size ≤ 9223372036854775807 := by have h1 := (cutL_len 61 (bs X)).1; rw [size_mk]; rw [← size_bs] at h1; omega
        have z2 : (mk (cutL 61 (bs X)).2.1).size ≤ 9223372036854775807 := by have h1 := (cutL_len 61 (bs X)).2.1; rw [size_mk]; rw [← size_bs] at h1; omega
        generalize mk (cutL 61 (bs X)).1 = c1 at *
        generalize mk (cutL 61 (bs X)).2.1 = c2 at *
        generalize (cutL 61 (bs X)).2.2 = c3 at *
        have HT1 := Lib.hid (fun W => rtrim_any c1 W z1)
        have HT2 := Lib.hid (fun W => rtrim_any c2 W z2)
        generalize trimS c1 = N at *
        generalize trimS c2 = V at *
        clear hX z1 z2
        go_wp2_with fail
        rw [← eX]
        clear eX
        refine (rcut61 X _ (by omega)).mono ?_
        rintro e w1 ⟨rfl, hu⟩
        rw [HC.out]
        have own1 := (own_keep hown hu).alloc (.cells #[.string N, .string V, .bool c3] 53)
        replace hb := hb.trans (hu.mono hz)
        have hz1' := hb.size
        clear hown hu hz
        go_wp2_with fail
        refine (HT1.out _).mono ?_
        rintro e w2 ⟨rfl, rfl⟩
        go_wp2_with fail
        refine (HT2.out _).mono ?_
        rintro e w2 ⟨rfl, rfl⟩
        go_wp2_with (at_builtin; refine wpList_append_own _ rfl (.tmp 34) (.tmp 41) 50 rfl w.heap.size 53 i0 (.agg #[.string ⟨#[]⟩, .string ⟨#[]⟩, .bool false]) 3 40 Tryz.underlying50 hi hz0 hz1 hz2 rfl (by decide) u3 q.length (prtsC q) rfl own1 ⟨w1.heap.size, 0, none⟩ 1 1 [.string N, .string V, .bool c3] rfl ?c1 ?c2 ?c3 ?c4 ?c5 ?c6 ?_)
        case c1 => rfl
        case c2 => intro j u hu; rw [Addr.add_mid, Nat.zero_add]; exact (hcellNew w1 [.string N, .string V, .bool c3] _ j).trans hu
        case c3 => intro u hu; simp at hu; rcases hu with rfl | rfl | rfl <;> rfl
        case c4 => unfold maxLen; omega
        case c5 => omega
        case c6 => rw [World.size_alloc]; omega
        intro v2 w3 hown2 hg2 hne2
        have hb2 : Below w.heap.size w w3 := (hb.alloc hz1' _).grown hg2 (by rw [World.size_alloc]; omega) (fun k hk => (own1.lt k hk).1)
        rw [← HX.out, ← prtsC_snoc] at hown2
        clear hg2 hne2 own1 hb hz1'
        go_wp2_with fail
        go_roundw
        case rel => exact ⟨k + 1, k + 1, q ++ [((bs s).drop f).take (k - f)], by omega, Nat.le_refl _, by go_num, by go_num, H2, by rw [List.length_append]; simp; omega, by rw [List.length_append]; exact hown2, hb2⟩
        case measure => simp [intOf]; omega
      · have H2 := Lib.hid (HR.out.more hlt hc)
        go_wp2_with fail
        go_roundw
        case rel => exact ⟨k + 1, f, q, by omega, by omega, rfl, by go_num, H2, by omega, hown, hb⟩
        case measure => simp [intOf]; omega
    · by_cases heq : k = s.size
      · have H2 := Lib.hid (show PR s (q ++ [((bs s).drop f).take (k - f)]) (k + 1) (k + 1) by have h9 := HR.out; rw [heq] at h9 ⊢; exact h9.last)
        have hle : k ≤ s.size := by omega
        clear heq
        have hX := ext_bs s f k
        have hXs : (s.extract f k).size ≤ 1000 := by rw [ByteArray.size_extract]; omega
        have hf2 : (f : Int) ≤ (k : Int) := by omega
        obtain ⟨X, eX⟩ : ∃ X, X = s.extract f k := ⟨_, rfl⟩
        rw [← eX] at hX hXs
        have HX := Lib.hid (show prtC (((bs s).drop f).take (k - f)) = [.string (trimS (mk (cutL 61 (bs X)).1)), .string (trimS (mk (cutL 61 (bs X)).2.1)), .bool (cutL 61 (bs X)).2.2] by rw [← hX]; rfl)
        have HC := Lib.hid (show cutV3 61 X = .tuple #[.string (mk (cutL 61 (bs X)).1), .string (mk (cutL 61 (bs X)).2.1), .bool (cutL 61 (bs X)).2.2] from rfl)
        have z1 : (mk (cutL 61 (bs X)).1).size ≤ 9223372036854775807 := by have h1 := (cutL_len 61 (bs X)).1; rw [size_mk]; rw [← size_bs] at h1; omega
        have z2 : (mk (cutL 61 (bs X)).2.1).size ≤ 9223372036854775807 := by have h1 := (cutL_len 61 (bs X)).2.1; rw [size_mk]; rw [← size_bs] at h1; omega
        generalize mk (cutL 61 (bs X)).1 = c1 at *
        generalize mk (cutL 61 (bs X)).2.1 = c2 at *
        generalize (cutL 61 (bs X)).2.2 = c3 at *
        have HT1 := Lib.hid (fun W => rtrim_any c1 W z1)
        have HT2 := Lib.hid (fun W => rtrim_any c2 W z2)
        generalize trimS c1 = N at *
        generalize trimS c2 = V at *
        clear hX z1 z2
        go_wp2_with fail
        rw [← eX]
        clear eX
        refine (rcut61 X _ (by omega)).mono ?_
        rintro e w1 ⟨rfl, hu⟩
        rw [HC.out]
        have own1 := (own_keep hown hu).alloc (.cells #[.string N, .string V, .bool c3] 53)
        replace hb := hb.trans (hu.mono hz)
        have hz1' := hb.size
        clear hown hu hz
        go_wp2_with fail
        refine (HT1.out _).mono ?_
        rintro e w2 ⟨rfl, rfl⟩
        go_wp2_with fail
        refine (HT2.out _).mono ?_
        rintro e w2 ⟨rfl, rfl⟩
        go_wp2_with (at_builtin; refine wpList_append_own _ rfl (.tmp 34) (.tmp 41) 50 rfl w.heap.size 53 i0 (.agg #[.string ⟨#[]⟩, .string ⟨#[]⟩, .bool false]) 3 40 Tryz.underlying50 hi hz0 hz1 hz2 rfl (by decide) u3 q.length (prtsC q) rfl own1 ⟨w1.heap.size, 0, none⟩ 1 1 [.string N, .string V, .bool c3] rfl ?c1 ?c2 ?c3 ?c4 ?c5 ?c6 ?_)
        case c1 => rfl
        case c2 => intro j u hu; rw [Addr.add_mid, Nat.zero_add]; exact (hcellNew w1 [.string N, .string V, .bool c3] _ j).trans hu
        case c3 => intro u hu; simp at hu; rcases hu with rfl | rfl | rfl <;> rfl
        case c4 => unfold maxLen; omega
        case c5 => omega
        case c6 => rw [World.size_alloc]; omega
        intro v2 w3 hown2 hg2 hne2
        have hb2 : Below w.heap.size w w3 := (hb.alloc hz1' _).grown hg2 (by rw [World.size_alloc]; omega) (fun k hk => (own1.lt k hk).1)
        rw [← HX.out, ← prtsC_snoc] at hown2
        clear hg2 hne2 own1 hb hz1'
        go_wp2_with fail
        go_roundw
        case rel => exact ⟨k + 1, k + 1, q ++ [((bs s).drop f).take (k - f)], by omega, Nat.le_refl _, by go_num, by go_num, H2, by rw [List.length_append]; simp; omega, by rw [List.length_append]; exact hown2, hb2⟩
        case measure => simp [intOf]; omega
      · have hk2 : k = s.size + 1 := by omega
        have hq2 : segs (bs s) = q := by
          rcases HR.out with ⟨h1, _⟩ | ⟨_, h2⟩
          · omega
          · exact h2
        have hge : ¬ ((k : Int) ≤ (s.size : Int)) := by omega
        obtain ⟨b, cp, rfl, HP⟩ := PT.of_owns hown (by rw [← hq2]; exact segs_ne _)
        have HQ := Lib.hid hq2
        have HP2 := Lib.hid HP
        have HB := Lib.hid hb
        clear hq2 hown HP hb
        go_wp2_with fail
        go_ret
        exact ⟨b, cp, by rw [HQ.out]; rfl, HB.out, by rw [HQ.out]; exact HP2.out⟩
end Go.Proofs.YtngamlikhgilhaaGreatDoor
