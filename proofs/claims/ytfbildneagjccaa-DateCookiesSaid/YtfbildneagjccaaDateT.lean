/- Which parting bytes a cookie's date has is of no account: the plain law, and the walk of DateParted. -/
import Derived.Test.YtfbildneagjccaaDateR
import Derived.ChangeSlices
namespace Go.Proofs.Ytfbildneagjccaa
open Go.RowKit Go.ChangeShapes Go.WideShapes

def allP (l : List UInt8) : Bool := l.all fun c => partsB (c.toNat : Int)
def byL (p : List UInt8) (c : UInt8) : List UInt8 := if partsB (c.toNat : Int) = true then p else [c]
def partL (p l : List UInt8) : List UInt8 := l.flatMap (byL p)
theorem words_parts (p l : List UInt8) (hp : allP p = true) : wordsA [] (p ++ l) = wordsA [] l := by
  induction p with
  | nil => rfl
  | cons c p ih =>
    unfold allP at hp ih
    rw [List.all_cons, Bool.and_eq_true] at hp
    rw [List.cons_append, wordsA_skip _ _ hp.1, ih hp.2]
theorem words_by (d : UInt8) (q l : List UInt8) (hd : partsB (d.toNat : Int) = true) (hq : allP q = true) : ∀ cur, wordsA cur (partL (d :: q) l) = wordsA cur l := by
  induction l with
  | nil => intro cur; rfl
  | cons c l ih =>
    intro cur
    have e : partL (d :: q) (c :: l) = byL (d :: q) c ++ partL (d :: q) l := List.flatMap_cons
    rw [e]
    cases hc : partsB (c.toNat : Int)
    · have hn : ¬ partsB (c.toNat : Int) = true := by rw [hc]; simp
      rw [byL, if_neg hn]
      show wordsA cur (c :: partL (d :: q) l) = wordsA cur (c :: l)
      rw [wordsA, if_neg hn, ih, wordsA, if_neg hn]
    · rw [byL, if_pos hc]
      show wordsA cur (d :: (q ++ partL (d :: q) l)) = wordsA cur (c :: l)
      rw [wordsA, if_pos hd, words_parts q _ hq, ih, wordsA, if_pos hc]
def partS (p : List UInt8) (s : ByteArray) (k : Nat) : ByteArray := mk (p ++ partL p ((bs s).take k))
theorem cookie_parted (s : ByteArray) (p : List UInt8) (hp : allP p = true) (h0 : 0 < p.length) (k : Nat) (hk : s.size ≤ k) : cookieV (partS p s k) = cookieV s := by
  unfold cookieV wordsS partS
  rw [List.take_of_length_le (by rw [← size_bs]; exact hk), bs_mk, words_parts _ _ hp]
  cases p with
  | nil => cases h0
  | cons d q =>
    unfold allP at hp
    rw [List.all_cons, Bool.and_eq_true] at hp
    rw [words_by d q _ hp.1 hp.2]
theorem partS_zero (p : List UInt8) (s : ByteArray) : mk p = partS p s 0 := by
  unfold partS partL
  simp
theorem take_one (l : List UInt8) (k : Nat) (h : k < l.length) : l.take (k + 1) = l.take k ++ [l.getD k 0] := by
  rw [List.take_succ_eq_append_getElem h]
  simp [h]
theorem partS_yes {p : List UInt8} {s : ByteArray} {k : Nat} (hk : k < s.size) (h : partsB (at_ s k) = true) : partS p s k ++ mk p = partS p s (k + 1) := by
  apply bs_inj
  unfold partS partL
  rw [bs_append, bs_mk, bs_mk, bs_mk, take_one _ _ (by rw [← size_bs]; exact hk), List.flatMap_append, List.append_assoc]
  congr 2
  have : byL p ((bs s).getD k 0) = p := if_pos h
  simp only [List.flatMap_cons, List.flatMap_nil, List.append_nil, this]
theorem one_bs (s : ByteArray) (k : Nat) (hk : k < s.size) : bs (s.extract k (k + 1)) = [(bs s).getD k 0] := by
  have hk' : k < (bs s).length := by rw [← size_bs]; exact hk
  rw [bs_extract, take_one _ _ hk', List.drop_left' (by rw [List.length_take]; omega)]
theorem partS_no {p : List UInt8} {s : ByteArray} {k : Nat} (hk : k < s.size) (h : partsB (at_ s k) = false) : partS p s k ++ s.extract k (k + 1) = partS p s (k + 1) := by
  apply bs_inj
  rw [bs_append, one_bs s k hk]
  unfold partS partL
  rw [bs_mk, bs_mk, take_one _ _ (by rw [← size_bs]; exact hk), List.flatMap_append, List.append_assoc]
  congr 2
  have : byL p ((bs s).getD k 0) = [(bs s).getD k 0] := if_neg (by rw [show partsB ((((bs s).getD k 0).toNat : Nat) : Int) = false from h]; simp)
  simp only [List.flatMap_cons, List.flatMap_nil, List.append_nil, this]
theorem allP_no (l : List UInt8) (k : Nat) (h : k < l.length) (ha : allP (l.take k) = true) (hb : partsB (l[k].toNat : Int) = true) : allP (l.take (k + 1)) = true := by
  unfold allP at *
  rw [List.take_succ_eq_append_getElem h, List.all_append, ha]
  simp [hb]

/-- The slice's bytes are l. -/
def ByRow (w : World) (a : Option Addr) (len cap : Nat) (l : List UInt8) : Prop :=
  l.length = len ∧ len ≤ cap ∧ cap ≤ maxLen ∧ (len = 0 ∨ ∃ b off, a = some ⟨b, off, none⟩ ∧ ∀ i (h : i < l.length), w.cell? ⟨b, off + i, none⟩ = some (.int .u8 (l[i].toNat : Int)))
theorem u8_of {n : Int} (h : (Lit.int .u8 n).wf = true) : ((UInt8.ofNat n.toNat).toNat : Int) = n := by
  have h2 : 0 ≤ n ∧ n ≤ 255 := by simpa [Lit.wf, IntKind.min, IntKind.max, IntKind.bits, IntKind.signed] using h
  rw [UInt8.toNat_ofNat']
  omega
theorem openBy {H : Type} {enc : TypeId × Value → H} {w : World} {base : Nat} {spare : Nat → Bool} {held : Bool} {a : Option Addr} {len cap : Nat} {d : DataW H} {p : List MemPlace}
    (h : DataW.Trod enc Try.prog w base spare held 30 (.slice a len cap) d p) : ∃ l, ByRow w a len cap l := by
  obtain ⟨fuel, hf⟩ := h
  rcases open_ints Try.underlying30 Try.underlying5 (by kernel_rfl) hf with ⟨hcs, _⟩ | ⟨x, l, c, zs, hcs, _, hl, hm, hz, _, hcell, hwf⟩
  · simp [Value.cells] at hcs
    obtain ⟨rfl, rfl, rfl⟩ := hcs
    exact ⟨[], rfl, by omega, by unfold maxLen; omega, .inl rfl⟩
  · simp [Value.cells] at hcs
    obtain ⟨rfl, rfl, rfl⟩ := hcs
    have hlz : len ≤ zs.length := by rw [hz]; split <;> omega
    refine ⟨(zs.take len).map (fun n => UInt8.ofNat n.toNat), by simp; omega, hl, hm, ?_⟩
    rcases Nat.eq_zero_or_pos len with h0 | h0
    · exact .inl h0
    · obtain ⟨b, off, spot⟩ := x
      have hspot : spot = none := by simpa [Addr.add] using World.cell?_spot (hcell 0 (by omega))
      subst hspot
      refine .inr ⟨b, off, rfl, fun j hj => ?_⟩
      have hj2 : j < len := by simp at hj; omega
      have hj3 : j < zs.length := by omega
      have hc := hcell j hj3
      rw [Go.WideShapes.add_plain] at hc
      rw [hc]
      have hm := hwf (zs.getD j 0) (by rw [List.getD_eq_getElem?_getD, List.getElem?_eq_getElem hj3, Option.getD_some]; exact List.getElem_mem hj3)
      have e : ((zs.take len).map (fun n => UInt8.ofNat n.toNat))[j] = UInt8.ofNat (zs.getD j 0).toNat := by
        simp [hj3]
      rw [e, u8_of hm]
set_option maxRecDepth 100000 in
theorem dateParted_any (s : ByteArray) (A : Option Addr) (len cap : Nat) (l : List UInt8) (w : World) (_ : s.size ≤ 140737488351232) (hr : ByRow w A len cap l) :
    Calls Try.prog 8 #[.string s, .slice A len cap] w fun e w' => e = .returned (.bool true) ∧ Below w.heap.size w w' := by
  obtain ⟨hl, hcp, hcm, hcell⟩ := hr
  have hcs : 500 < s.size ∨ (s.size ≤ 500 ∧ len = 0) ∨ (s.size ≤ 500 ∧ ¬ len = 0 ∧ 10 < len) ∨ (s.size ≤ 500 ∧ 0 < len ∧ len ≤ 10) := by omega
  rcases hcs with h1 | ⟨h1, rfl⟩ | ⟨h1, h2, h3⟩ | ⟨h1, h2, h3⟩
  case inr.inr.inr =>
    obtain ⟨b, off, rfl, hx⟩ := hcell.resolve_left (by omega)
    subst hl
    have HX := Lib.hid hx
    have hbk : (convert 30 9 (.slice (some ⟨b, off, none⟩) l.length cap)).run Try.prog w = .ok (.string (mk l)) w :=
      run_convert_bytes_back w 30 9 5 ⟨b, off, none⟩ cap l Try.underlying30 Try.underlying5 Try.underlying9 (fun j hj => by
        rw [Go.WideShapes.add_plain]
        exact hx j hj)
    obtain ⟨P, hP⟩ : ∃ P, P = mk l := ⟨_, rfl⟩
    have hPz : P.size = l.length := by rw [hP, size_mk]
    rw [← hP] at hbk
    have HP := Lib.hid hP
    have hz0 : l.length ≠ 0 := by omega
    have g1 : decide (500 < (s.size : Int)) = false := by simp; omega
    have g2 : ((l.length : Int) == 0) = false := beq_eq_false_iff_ne.2 (by omega)
    have g3 : decide (10 < (l.length : Int)) = false := by simp; omega
    clear hx hcell hP
    go_enter Try.func8, Try.ntmps8
    go_wp2_with fail
    go_loop [29] (fun i => ∃ k : Nat, k ≤ l.length ∧ i = .int .i64 k ∧ Hid (allP (l.take k) = true)) (fun i => l.length - (intOf i).toNat)
    case atStart => exact ⟨0, Nat.zero_le _, rfl, Lib.hid rfl⟩
    case round =>
      obtain ⟨k, hk, rfl, HA⟩ := hrel
      by_cases hlt : k < l.length
      · have hxk := HX.out k hlt
        cases hb : partsB (l[k].toNat : Int)
        · have HB := Lib.hid hb
          clear hb
          go_wp2_with fail
          refine (rparts_any _ _).mono ?_
          rintro e w' ⟨rfl, rfl⟩
          rw [HB.out]
          go_wp2_with fail
          refine (dalive_any _).mono ?_
          rintro e w1 ⟨rfl, hb1⟩
          go_wp2_with fail
          go_ret
          exact ⟨rfl, hb1⟩
        · have HB := Lib.hid hb
          have HT := Lib.hid (allP_no l k hlt HA.out hb)
          clear hb
          go_wp2_with fail
          refine (rparts_any _ _).mono ?_
          rintro e w' ⟨rfl, rfl⟩
          rw [HB.out]
          go_wp2_with fail
          go_round
          case rel => exact ⟨k + 1, by omega, by go_num, HT⟩
          case measure => simp [intOf]; omega
      · have HAll := Lib.hid (show allP l = true from by have h9 := HA.out; rwa [List.take_of_length_le (by omega)] at h9)
        clear HX HA
        go_wp2_with fail
        go_loop [7, 42] (fun t i => ∃ (k : Nat) (T : ByteArray), k ≤ s.size ∧ i = .int .i64 k ∧ t = .string T ∧ T.size ≤ 10 + 10 * k ∧ Hid (T = partS l s k)) (fun _ i => s.size - (intOf i).toNat)
        case atStart => exact ⟨0, P, Nat.zero_le _, rfl, rfl, by omega, Lib.hid (by rw [HP.out]; exact partS_zero l s)⟩
        case round =>
          obtain ⟨j, T, hj, rfl, rfl, hT, HT⟩ := hrel
          by_cases hlj : j < s.size
          · have HG := Lib.hid (at_get s j hlj)
            cases hb : partsB (at_ s j)
            · have HB := Lib.hid hb
              have hez : (s.extract j (j + 1)).size = 1 := by rw [size_bs, one_bs s j hlj]; rfl
              have HN := Lib.hid (show T ++ s.extract j (j + 1) = partS l s (j + 1) by rw [HT.out]; exact partS_no hlj hb)
              clear hb
              go_wp2_with fail
              refine (rparts_any _ _).mono ?_
              rintro e w' ⟨rfl, rfl⟩
              rw [HG.out, HB.out]
              go_wp2_with fail
              go_round
              case rel => exact ⟨j + 1, _, by omega, by go_num, rfl, by rw [ByteArray.size_append, hez]; omega, HN⟩
              case measure => simp [intOf]; omega
            · have HB := Lib.hid hb
              have HN := Lib.hid (show T ++ P = partS l s (j + 1) by rw [HT.out, HP.out]; exact partS_yes hlj hb)
              clear hb
              go_wp2_with fail
              refine (rparts_any _ _).mono ?_
              rintro e w' ⟨rfl, rfl⟩
              rw [HG.out, HB.out]
              go_wp2_with fail
              go_round
              case rel => exact ⟨j + 1, _, by omega, by go_num, rfl, by rw [ByteArray.size_append]; omega, HN⟩
              case measure => simp [intOf]; omega
          · obtain ⟨t, bb, hc⟩ := cookie_two s
            have HC := Lib.hid hc
            have HL := Lib.hid (show cookieV T = .tuple #[.int .i64 t, .bool bb] by rw [HT.out, cookie_parted s l HAll.out (by omega) j (by omega)]; exact hc)
            clear hc
            go_wp2_with fail
            refine (cookie_any s _ (by omega)).mono ?_
            rintro e w1 ⟨rfl, hb1⟩
            rw [HC.out]
            go_wp2_with fail
            refine (cookie_any T _ (by omega)).mono ?_
            rintro e w3 ⟨rfl, hb3⟩
            rw [HL.out]
            go_wp2_with fail
            refine (dalive_any _).mono ?_
            rintro e w4 ⟨rfl, hb4⟩
            have hB := Bsnoc (Bsnoc hb1 hb3) hb4
            clear hb1 hb3 hb4
            go_wp2_with fail
            go_ret
            exact ⟨by simp, hB⟩
  case' inl => have g1 : decide (500 < (s.size : Int)) = true := by simp; omega
  case' inr.inl => have g1 : decide (500 < (s.size : Int)) = false := by simp; omega
  case' inr.inr.inl =>
    have g1 : decide (500 < (s.size : Int)) = false := by simp; omega
    have g2 : ((len : Int) == 0) = false := beq_eq_false_iff_ne.2 (by omega)
    have g3 : decide (10 < (len : Int)) = true := by simp; omega
  all_goals
    clear hcell
    go_enter Try.func8, Try.ntmps8
    go_wp2_with fail
    refine (dalive_any _).mono ?_
    rintro e w1 ⟨rfl, hb1⟩
    go_wp2_with fail
    go_ret
    exact ⟨rfl, hb1⟩
end Go.Proofs.Ytfbildneagjccaa
