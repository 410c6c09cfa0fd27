/- The walk of the statement PathTexts; an address that came in, opened. -/
import Derived.Test.YtnjmhkehckhihaaDoorPathP
import Derived.Test.YtnjmhkehckhihaaDoorPathQ
namespace Go.Proofs.YtnjmhkehckhihaaDoor
open Go.RowKit Go.ChangeShapes Go.WideShapes Go.Deep

theorem parse_empty : parseO (⟨#[]⟩ : ByteArray) = urlE 120 := by
  unfold parseO
  rw [if_neg (by unfold preB; rw [tl_bs, tl_bs]; decide), if_neg (by unfold preB; rw [tl_bs, tl_bs]; decide)]
set_option maxHeartbeats 4000000 in
set_option maxRecDepth 100000 in
theorem pathTexts_walk (sec : Bool) (h p : ByteArray) (w : World) (hm : HasMax w) :
    Calls Tryd.prog 8 #[.agg #[.bool sec, .string h, .string p]] w fun e w' => e = .returned (.bool true) ∧ Below w.heap.size w w' := by
  by_cases hbig : 500 < h.size ∨ 500 < p.size
  · have HM := Lib.hid hm
    clear hm
    have hp : 500 < h.size ∨ (h.size ≤ 500 ∧ 500 < p.size) := by omega
    clear hbig
    rcases hp with h1 | ⟨h1, h2⟩
    all_goals
      go_enter Tryd.func8, Tryd.ntmps8
      go_wp2_with fail
      refine (alive_any _ ?hm).mono ?_
      case hm => exact max_keep HM.out ((Below.refl _ _).alloc (Nat.le_refl _) _)
      rintro e w1 ⟨rfl, hb1⟩
      have hB := Below.snoc ((Below.refl _ w).alloc (Nat.le_refl _) _) hb1
      clear hb1
      go_wp2_with fail
      go_ret
      exact ⟨rfl, hB⟩
  · have h1 : h.size ≤ 500 := by omega
    have h2 : p.size ≤ 500 := by omega
    have HM := Lib.hid hm
    clear hm hbig
    have hcase : (textV sec h p = .tuple #[.string (textS sec h p), .bool true] ∧ parseO (textS sec h p) = ((sec, h, p), 0) ∧ (textS sec h p).size ≤ 9223372036854775806) ∨ (textV sec h p = .tuple #[.string ⟨#[]⟩, .bool false]) := by
      by_cases ok : OkT h p
      · refine .inl ⟨textV_yes ok, text_ok sec h p ok, ?_⟩
        unfold textS
        rw [ByteArray.size_append, ByteArray.size_append]
        have h3 : (if sec = true then safeS else openS).size ≤ 8 := by cases sec <;> decide
        omega
      · exact .inr (textV_no ok)
    rcases hcase with ⟨e1, e2, e3⟩ | e1
    · have E2 := Lib.hid e2
      have E3 := Lib.hid e3
      clear e2 e3
      generalize textS sec h p = t at e1 E2 E3
      have E1 := Lib.hid e1
      clear e1
      go_enter Tryd.func8, Tryd.ntmps8
      go_wp2_with fail
      refine (text_any sec h p _ (by omega) (by omega) ?hm).mono ?_
      case hm => exact max_keep HM.out ((Below.refl _ _).alloc (Nat.le_refl _) _)
      rintro e w1 ⟨rfl, hb1⟩
      rw [E1.out]
      have HM1 := Lib.hid (max_keep HM.out (Below.snoc ((Below.refl _ _).alloc (Nat.le_refl _) _) hb1))
      have hB1 := Below.snoc ((Below.refl _ w).alloc (Nat.le_refl _) _) hb1
      obtain ⟨hc1, hf1⟩ := bcell hb1
      have hz1 : w.heap.size < w1.heap.size := by have := hb1.size; simp at this; omega
      clear hb1
      go_wp2_with fail
      refine (rtext_any sec h p _ (by omega) (by omega)).mono ?_
      rintro e w2 ⟨rfl, hb2⟩
      rw [E1.out]
      have HM2 := Lib.hid (max_keep HM1.out hb2)
      have hB2 := Below.snoc hB1 hb2
      obtain ⟨hc2, hf2⟩ := bcell hb2
      have hz2 : w.heap.size < w2.heap.size := by have := hb2.size; omega
      clear hb2
      go_wp2_with fail
      refine (parse_any t _ E3.out HM2.out).mono ?_
      rintro e w3 ⟨rfl, hb3⟩
      rw [E2.out, urlV_mk]
      have HM3 := Lib.hid (max_keep HM2.out hb3)
      have hB3 := Below.snoc hB2 hb3
      obtain ⟨hc3, hf3⟩ := bcell hb3
      have hz3 : w.heap.size < w3.heap.size := by have := hb3.size; omega
      clear hb3
      go_wp2_with fail
      refine (alive_any _ ?hm).mono ?_
      case hm => exact max_keep HM3.out ((Below.refl _ _).alloc (Nat.le_refl _) _)
      rintro e w4 ⟨rfl, hb4⟩
      have hB4 := Below.snoc (hB3.alloc hB3.size _) hb4
      obtain ⟨hc4, hf4⟩ := bcell hb4
      have hz4 : w.heap.size < w3.heap.size + 1 := by omega
      clear hb4
      go_wp2_with fail
      go_ret
      exact ⟨by simp, hB4⟩
    · have E1 := Lib.hid e1
      clear e1
      go_enter Tryd.func8, Tryd.ntmps8
      go_wp2_with fail
      refine (text_any sec h p _ (by omega) (by omega) ?hm).mono ?_
      case hm => exact max_keep HM.out ((Below.refl _ _).alloc (Nat.le_refl _) _)
      rintro e w1 ⟨rfl, hb1⟩
      rw [E1.out]
      have HM1 := Lib.hid (max_keep HM.out (Below.snoc ((Below.refl _ _).alloc (Nat.le_refl _) _) hb1))
      have hB1 := Below.snoc ((Below.refl _ w).alloc (Nat.le_refl _) _) hb1
      obtain ⟨hc1, hf1⟩ := bcell hb1
      have hz1 : w.heap.size < w1.heap.size := by have := hb1.size; simp at this; omega
      clear hb1
      go_wp2_with fail
      refine (rtext_any sec h p _ (by omega) (by omega)).mono ?_
      rintro e w2 ⟨rfl, hb2⟩
      rw [E1.out]
      have HM2 := Lib.hid (max_keep HM1.out hb2)
      have hB2 := Below.snoc hB1 hb2
      obtain ⟨hc2, hf2⟩ := bcell hb2
      have hz2 : w.heap.size < w2.heap.size := by have := hb2.size; omega
      clear hb2
      go_wp2_with fail
      refine (parse_any ⟨#[]⟩ _ (by decide) HM2.out).mono ?_
      rintro e w3 ⟨rfl, hb3⟩
      rw [parse_empty, urlE, urlV_mk]
      have HM3 := Lib.hid (max_keep HM2.out hb3)
      have hB3 := Below.snoc hB2 hb3
      obtain ⟨hc3, hf3⟩ := bcell hb3
      have hz3 : w.heap.size < w3.heap.size := by have := hb3.size; omega
      clear hb3
      go_wp2_with fail
      refine (alive_any _ ?hm).mono ?_
      case hm => exact max_keep HM3.out ((Below.refl _ _).alloc (Nat.le_refl _) _)
      rintro e w4 ⟨rfl, hb4⟩
      have hB4 := Below.snoc (hB3.alloc hB3.size _) hb4
      obtain ⟨hc4, hf4⟩ := bcell hb4
      have hz4 : w.heap.size < w3.heap.size + 1 := by omega
      clear hb4
      go_wp2_with fail
      go_ret
      exact ⟨by simp, hB4⟩

/-- What an address holds. -/
structure Url3 where
  sec : Bool
  h : ByteArray
  p : ByteArray
def Url3.val (c : Url3) : Value := .agg #[.bool c.sec, .string c.h, .string c.p]
theorem bool_field {H : Type} {enc : TypeId × Value → H} {w : World} {base : Nat} {spare : Nat → Bool} {held : Bool} {t : TypeId} {fuel : Nat} {c : Value} {x : Option (DataW H × List MemPlace)} {xs : List (DataW H × List MemPlace)} {i : Nat} (hi : i < xs.length)
    (ht : Tryd.prog.underlying t = some .bool) (h : DataW.trod enc Tryd.prog w base spare held fuel t [c] = x) (hx : x = xs[i]?) : ∃ n, c = .bool n := by
  rw [hx, List.getElem?_eq_getElem hi] at h
  obtain ⟨n, e, _⟩ := DataW.trod_bool ht h
  exact ⟨n, by simpa using e⟩
theorem string_field {H : Type} {enc : TypeId × Value → H} {w : World} {base : Nat} {spare : Nat → Bool} {held : Bool} {t : TypeId} {fuel : Nat} {c : Value} {x : Option (DataW H × List MemPlace)} {xs : List (DataW H × List MemPlace)} {i : Nat} (hi : i < xs.length)
    (ht : Tryd.prog.underlying t = some .string) (h : DataW.trod enc Tryd.prog w base spare held fuel t [c] = x) (hx : x = xs[i]?) : ∃ n, c = .string n := by
  rw [hx, List.getElem?_eq_getElem hi] at h
  obtain ⟨n, e, _⟩ := DataW.trod_string ht h
  exact ⟨n, by simpa using e⟩
theorem openUrl {H : Type} {enc : TypeId × Value → H} {w : World} {r : Reach} {b0 base : Nat} {spare : Nat → Bool} {held : Bool} {v : Value} {d : DataW H} {p : List MemPlace}
    (hv : Value.okWide Tryd.prog w r b0 32 v) (h : DataW.Trod enc Tryd.prog w base spare held 32 v d p) : ∃ c : Url3, v = c.val := by
  obtain ⟨cs, rfl, hsz⟩ := okWide_struct Tryd.underlying32 hv
  obtain ⟨l⟩ := cs
  have hC : Tryd.prog.cellsOf 32 = 3 := by kernel_rfl
  match l, hsz.trans hC with
  | [c0, c1, c2], _ =>
    obtain ⟨fuel, hf⟩ := h
    obtain ⟨xs, n, _, _, _, hlen, hg⟩ := DataW.trod_struct Tryd.underlying32 hf
    have hl : xs.length = 3 := by simpa using hlen
    have k3 : Tryd.prog.cellsOf 4 = 1 := by kernel_rfl
    have k4 : Tryd.prog.cellsOf 9 = 1 := by kernel_rfl
    have g0 : DataW.trod enc Tryd.prog w base spare held n 4 [c0] = xs[0]? := by
      have := hg 0 _ rfl
      simpa [k3, k4, Value.cells] using this
    have g1 : DataW.trod enc Tryd.prog w base spare held n 9 [c1] = xs[1]? := by
      have := hg 1 _ rfl
      simpa [k3, k4, Value.cells] using this
    have g2 : DataW.trod enc Tryd.prog w base spare held n 9 [c2] = xs[2]? := by
      have := hg 2 _ rfl
      simpa [k3, k4, Value.cells] using this
    obtain ⟨a0, e0⟩ := bool_field (c := c0) (by omega) Tryd.underlying4 g0 rfl
    obtain ⟨a1, e1⟩ := string_field (c := c1) (by omega) Tryd.underlying9 g1 rfl
    obtain ⟨a2, e2⟩ := string_field (c := c2) (by omega) Tryd.underlying9 g2 rfl
    exact ⟨⟨a0, a1, a2⟩, by rw [e0, e1, e2]; rfl⟩
theorem pathTexts_any (c : Url3) (w : World) (_ : True) (hm : HasMax w) :
    Calls Tryd.prog 8 #[c.val] w fun e w' => e = .returned (.bool true) ∧ Below w.heap.size w w' := pathTexts_walk c.sec c.h c.p w hm
end Go.Proofs.YtnjmhkehckhihaaDoor
