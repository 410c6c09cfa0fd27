/- What every statement of the chapter asks besides: one header, there and back. -/
import Derived.Test.YtngamlikhgilhaaDoorHdrH
import Derived.Test.YtngamlikhgilhaaDoorHdrQ
namespace Go.Proofs.YtngamlikhgilhaaDoor
open Go.RowKit Go.Shelf

def aL1 : ByteArray := ⟨#[97, 61, 98, 59, 32, 80, 97, 116, 104, 61, 47, 120, 59, 32, 83, 69, 67, 85, 82, 69, 59, 32, 109, 97, 120, 45, 97, 103, 101, 61, 53]⟩
def aH1 : Hd := ⟨⟨#[97]⟩, ⟨#[98]⟩, ⟨#[]⟩, ⟨#[47, 120]⟩, 105, true, false, 0⟩
theorem alive_p1 : parH aL1 100 = some aH1 := by
  have h1 : segs (bs aL1) = [[97, 61, 98], [32, 80, 97, 116, 104, 61, 47, 120], [32, 83, 69, 67, 85, 82, 69], [32, 109, 97, 120, 45, 97, 103, 101, 61, 53]] := by decide
  rw [par_P]
  unfold parP
  rw [h1, if_pos (by decide)]
  have h2 : ∀ p, stepH 100 p [32, 80, 97, 116, 104, 61, 47, 120] = ({ p.1 with pt := ⟨#[47, 120]⟩ }, p.2) := by
    intro p
    rw [step_lit 100 p [32, 80, 97, 116, 104, 61, 47, 120] 4 ⟨#[47, 120]⟩ (by decide) (by decide)]
    have h : preB ⟨#[47, 120]⟩ ⟨#[47]⟩ = true := by rw [pre_L]; decide
    unfold attK agK
    dsimp only
    rw [h, if_neg (by decide : ¬ (4 : Nat) = 2)]
    rfl
  have h3 : ∀ p, stepH 100 p [32, 83, 69, 67, 85, 82, 69] = ({ p.1 with se := true }, p.2) := fun p => step_lit 100 p _ 5 ⟨#[]⟩ (by decide) (by decide)
  have h4 : ∀ p, stepH 100 p [32, 109, 97, 120, 45, 97, 103, 101, 61, 53] = (p.1, 105) := by
    intro p
    rw [step_lit 100 p [32, 109, 97, 120, 45, 97, 103, 101, 61, 53] 2 (mk [53]) (by decide) (by decide)]
    have h : ageN (mk [53]) = 5 := by
      have := age_int 5 (by decide)
      rw [show intL 5 = [53] from digL_lt (by decide)] at this
      exact this
    refine Prod.ext rfl ?_
    show agK 2 p.2 100 (mk [53]) = _
    unfold agK
    rw [h]
    rfl
  rw [List.tail_cons, List.foldl_cons, List.foldl_cons, List.foldl_cons, List.foldl_nil, h2, h3, h4, List.headD_cons, show nameS (mk [97, 61, 98]) = ⟨#[97]⟩ by decide, show valueS (mk [97, 61, 98]) = ⟨#[98]⟩ by decide]
  rfl
theorem alive_p2 : parH ⟨#[61, 98]⟩ 100 = none := by
  unfold parH
  dsimp only
  rw [if_neg (by decide)]
def aH2 : Hd := ⟨⟨#[97]⟩, ⟨#[98]⟩, ⟨#[99]⟩, ⟨#[]⟩, 784111777, false, true, 1⟩
def aX : ByteArray := ⟨#[83, 117, 110, 44, 32, 48, 54, 32, 78, 111, 118, 32, 49, 57, 57, 52, 32, 48, 56, 58, 52, 57, 58, 51, 55, 32, 71, 77, 84]⟩
theorem alive_when : IsWhen 784111777 aX := ⟨0, 1994, 10, 6, 8, 49, 37, ⟨by decide, by decide, by decide, by decide, by decide, by decide, by decide, by decide, by decide⟩, by decide, by decide, by decide, by decide⟩
theorem alive_r2 : rightB aH2 = true := by decide
theorem alive_r1 : rightB aH1 = true := by decide
theorem alive_r0 : rightB zH = false := by decide
theorem acall_p1 (w : World) : Calls Tryd.prog 6 #[.string ⟨#[97, 61, 98, 59, 32, 80, 97, 116, 104, 61, 47, 120, 59, 32, 83, 69, 67, 85, 82, 69, 59, 32, 109, 97, 120, 45, 97, 103, 101, 61, 53]⟩, .int .i64 100] w fun e w' => e = .returned (.tuple #[.agg #[.string ⟨#[97]⟩, .string ⟨#[98]⟩, .string ⟨#[]⟩, .string ⟨#[47, 120]⟩, .int .i64 105, .bool true, .bool false, .int .i64 0], .bool true]) ∧ Below w.heap.size w w' := by
  refine (par_any aL1 100 w (by decide) (by decide) (by decide)).mono ?_
  rintro e w' ⟨rfl, hb⟩
  rw [alive_p1]
  exact ⟨rfl, hb⟩
theorem acall_p2 (w : World) : Calls Tryd.prog 6 #[.string ⟨#[61, 98]⟩, .int .i64 100] w fun e w' => e = .returned (.tuple #[.agg #[.string ⟨#[]⟩, .string ⟨#[]⟩, .string ⟨#[]⟩, .string ⟨#[]⟩, .int .i64 0, .bool false, .bool false, .int .i64 0], .bool false]) ∧ Below w.heap.size w w' := by
  refine (par_any ⟨#[61, 98]⟩ 100 w (by decide) (by decide) (by decide)).mono ?_
  rintro e w' ⟨rfl, hb⟩
  rw [alive_p2]
  exact ⟨rfl, hb⟩
theorem acall_print (w : World) (hm : HasMax w) : Calls Tryd.prog 18 #[.agg #[.string ⟨#[97]⟩, .string ⟨#[98]⟩, .string ⟨#[99]⟩, .string ⟨#[]⟩, .int .i64 784111777, .bool false, .bool true, .int .i64 1]] w fun e w' => e = .returned (.tuple #[.string (mk (printL aH2 aX)), .bool true]) ∧ Below w.heap.size w w' := by
  refine (print_yes ⟨#[97]⟩ ⟨#[98]⟩ ⟨#[99]⟩ ⟨#[]⟩ 784111777 false true 1 w (by decide) (by decide) hm alive_r2).mono ?_
  rintro e w' ⟨hb, ⟨h, -⟩ | ⟨-, x, hx, rfl⟩⟩
  · exact absurd (alive_r2.symm.trans h) (by decide)
  · rw [hx.uniq alive_when]
    exact ⟨rfl, hb⟩
theorem acall_r1 (w : World) (hm : HasMax w) : Calls Tryd.prog 19 #[.agg #[.string ⟨#[97]⟩, .string ⟨#[98]⟩, .string ⟨#[]⟩, .string ⟨#[47, 120]⟩, .int .i64 105, .bool true, .bool false, .int .i64 0]] w fun e w' => e = .returned (.bool true) ∧ Below w.heap.size w w' := by
  refine (right_all aH1 w (by decide) (by decide) (by decide) (by decide) hm).mono ?_
  rintro e w' ⟨rfl, hb⟩
  rw [alive_r1]
  exact ⟨rfl, hb⟩
theorem acall_r0 (w : World) (hm : HasMax w) : Calls Tryd.prog 19 #[.agg #[.string ⟨#[]⟩, .string ⟨#[]⟩, .string ⟨#[]⟩, .string ⟨#[]⟩, .int .i64 0, .bool false, .bool false, .int .i64 0]] w fun e w' => e = .returned (.bool false) ∧ Below w.heap.size w w' := by
  refine (right_all zH w (by decide) (by decide) (by decide) (by decide) hm).mono ?_
  rintro e w' ⟨rfl, hb⟩
  rw [alive_r0]
  exact ⟨rfl, hb⟩
set_option maxRecDepth 100000 in
theorem alive_any (w : World) (hm : HasMax w) : Calls Tryd.prog 7 #[] w fun e w' => e = .returned (.bool true) ∧ Below w.heap.size w w' := by
  have HM := Lib.hid (fun w1 (h : Below w.heap.size w w1) => max_keep hm h)
  clear hm
  have HT := Lib.hid (show mk (printL aH2 aX) = ⟨#[97, 61, 98, 59, 32, 68, 111, 109, 97, 105, 110, 61, 99, 59, 32, 69, 120, 112, 105, 114, 101, 115, 61, 83, 117, 110, 44, 32, 48, 54, 32, 78, 111, 118, 32, 49, 57, 57, 52, 32, 48, 56, 58, 52, 57, 58, 51, 55, 32, 71, 77, 84, 59, 32, 72, 116, 116, 112, 79, 110, 108, 121, 59, 32, 83, 97, 109, 101, 83, 105, 116, 101, 61, 76, 97, 120]⟩ by unfold printL; rw [toLh, toLh]; rfl)
  go_enter Tryd.func7, Tryd.ntmps7
  go_wp2_with fail
  refine (acall_p1 _).mono ?_
  rintro e w1 ⟨rfl, hb1⟩
  go_wp2_with fail
  have B1 := Lib.hid (BS.new w1 aH1 23)
  have k1 := hb1.size
  have HB1 := Lib.hid hb1
  clear hb1
  refine (acall_p2 _).mono ?_
  rintro e w2 ⟨rfl, hb2⟩
  have B2 := Lib.hid (B1.out.keep (hb2.mono (by rw [World.size_alloc]; exact Nat.le_refl _)))
  clear B1 hb2
  go_wp2_with fail
  have B3 := Lib.hid (B2.out.keep (((Below.refl w2.heap.size w2).alloc (Nat.le_refl _) (.cells (hdL zH).toArray 23)).mono B2.out.sz))
  refine (acall_print _ (HM.out _ (Below.trans HB1.out (B3.out.bel.mono k1)))).mono ?_
  rw [HT.out]
  rintro e w3 ⟨rfl, hb3⟩
  have B4 := Lib.hid (B3.out.keep (hb3.mono B3.out.sz))
  clear B2 B3 hb3 HT
  obtain ⟨c0, c1, c2, c3, c4, c5, c6, c7⟩ := B4.out.cells
  dsimp only [aH1] at c0 c1 c2 c3 c4 c5 c6 c7
  go_wp2_with fail
  refine (acall_r1 _ (HM.out _ (Below.trans HB1.out (B4.out.bel.mono k1)))).mono ?_
  rintro e w4 ⟨rfl, hb4⟩
  have B5 := Lib.hid (B4.out.keep (hb4.mono B4.out.sz))
  clear B4 hb4
  go_wp2_with fail
  refine (acall_r0 _ (HM.out _ (Below.trans HB1.out (B5.out.bel.mono k1)))).mono ?_
  rintro e w5 ⟨rfl, hb5⟩
  have B6 := Lib.hid (B5.out.keep (hb5.mono B5.out.sz))
  clear B5 hb5
  go_wp2_with fail
  go_ret
  exact ⟨rfl, Below.trans HB1.out (B6.out.bel.mono k1)⟩
end Go.Proofs.YtngamlikhgilhaaDoor
