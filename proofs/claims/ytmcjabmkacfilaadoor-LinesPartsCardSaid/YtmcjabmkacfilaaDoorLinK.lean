/- The contract of lines.Percent. -/
import Derived.Test.YtmcjabmkacfilaaDoorLinJ
import Derived.Deep.CutBlock
import Derived.Deep.DeepCutAuto
import Derived.StillTailTactics
namespace Go.Proofs.YtmcjabmkacfilaaDoor
open Go.RowKit Go.Shelf

/-- A digit of sixteen. -/
def hexB (n : Nat) : UInt8 := [48, 49, 50, 51, 52, 53, 54, 55, 56, 57, 65, 66, 67, 68, 69, 70].getD n 0
def pctB (c : UInt8) : List UInt8 := if safeB c = true then [c] else [37, hexB (c.toNat / 16), hexB (c.toNat % 16)]
theorem pctB_len (c : UInt8) : (pctB c).length ≤ 3 := by
  unfold pctB
  split <;> simp
theorem hex_at (n : Nat) (h : n < (⟨#[48, 49, 50, 51, 52, 53, 54, 55, 56, 57, 65, 66, 67, 68, 69, 70]⟩ : ByteArray).size) : (⟨#[48, 49, 50, 51, 52, 53, 54, 55, 56, 57, 65, 66, 67, 68, 69, 70]⟩ : ByteArray)[n]'h = hexB n := by
  have h2 : n < 16 := h
  have : n = 0 ∨ n = 1 ∨ n = 2 ∨ n = 3 ∨ n = 4 ∨ n = 5 ∨ n = 6 ∨ n = 7 ∨ n = 8 ∨ n = 9 ∨ n = 10 ∨ n = 11 ∨ n = 12 ∨ n = 13 ∨ n = 14 ∨ n = 15 := by omega
  rcases this with rfl | rfl | rfl | rfl | rfl | rfl | rfl | rfl | rfl | rfl | rfl | rfl | rfl | rfl | rfl | rfl <;> rfl
theorem and15_all : ∀ n : Fin 256, bits BinOp.and IntKind.u8 ((n.val : Nat) : Int) 15 = ((n.val % 16 : Nat) : Int) := by decide +kernel
theorem and15 (c : UInt8) : bits BinOp.and IntKind.u8 (c.toNat : Int) 15 = (c.toNat : Int) % 16 := and15_all ⟨c.toNat, UInt8.toNat_lt c⟩
set_option maxRecDepth 100000 in
set_option maxHeartbeats 1000000 in
theorem pct1_any (c : UInt8) (w : World) : Calls Tryd.prog 45 #[.int .u8 (c.toNat : Int)] w fun e w' => e = .returned (.string (mk (pctB c))) ∧ Below w.heap.size w w' := by
  cases hsf : safeB c
  · have HS := Lib.hid hsf
    clear hsf
    go_enter Tryd.func45, Tryd.ntmps45
    go_wp2_with fail
    refine (safe_any c _).mono ?_
    rintro e w1 ⟨rfl, rfl⟩
    rw [HS.out]
    have hc := UInt8.toNat_lt c
    have a2 : 0 ≤ (c.toNat : Int) % 16 := by omega
    have a3 : (c.toNat : Int) % 16 < 16 := by omega
    have a0 : 0 ≤ (c.toNat : Int) / 16 := by omega
    have a1 : (c.toNat : Int) / 16 < 16 := by omega
    have q0 : c.toNat / 16 < (⟨#[48, 49, 50, 51, 52, 53, 54, 55, 56, 57, 65, 66, 67, 68, 69, 70]⟩ : ByteArray).size := by show c.toNat / 16 < 16; omega
    have q1 : c.toNat % 16 < (⟨#[48, 49, 50, 51, 52, 53, 54, 55, 56, 57, 65, 66, 67, 68, 69, 70]⟩ : ByteArray).size := by show c.toNat % 16 < 16; omega
    have hcv : (convert 37 9 (.slice (some ⟨w.heap.size, 0, none⟩) 3 3)).run Tryd.prog ((w.alloc (.cells #[.int .u8 37, .int .u8 (((⟨#[48, 49, 50, 51, 52, 53, 54, 55, 56, 57, 65, 66, 67, 68, 69, 70]⟩ : ByteArray)[c.toNat / 16]'q0).toNat : Int), .int .u8 (((⟨#[48, 49, 50, 51, 52, 53, 54, 55, 56, 57, 65, 66, 67, 68, 69, 70]⟩ : ByteArray)[c.toNat % 16]'q1).toNat : Int)] 5)).drew) = .ok (.string (mk (pctB c))) ((w.alloc (.cells #[.int .u8 37, .int .u8 (((⟨#[48, 49, 50, 51, 52, 53, 54, 55, 56, 57, 65, 66, 67, 68, 69, 70]⟩ : ByteArray)[c.toNat / 16]'q0).toNat : Int), .int .u8 (((⟨#[48, 49, 50, 51, 52, 53, 54, 55, 56, 57, 65, 66, 67, 68, 69, 70]⟩ : ByteArray)[c.toNat % 16]'q1).toNat : Int)] 5)).drew) := by
      have h9 := conv_new w.drew [37, hexB (c.toNat / 16), hexB (c.toNat % 16)] 3 rfl
      rw [hex_at, hex_at, show pctB c = [37, hexB (c.toNat / 16), hexB (c.toNat % 16)] from by unfold pctB; rw [if_neg (by rw [HS.out]; simp)]]
      exact h9
    go_upto_region 3 with fail
    refine wp_region_still_tail 6 (by kernel_rfl) (by kernel_rfl) ?_
    simp only [List.take_succ_cons, List.take_zero, List.drop_succ_cons, List.drop_zero]
    still_step
    still_step
    still_step
    still_step
    still_step
    rw [and15 c]
    still_step
    refine wpStill_nil ?_
    go_wp2_with fail
    go_ret
    exact ⟨rfl, Below.drew ((Below.refl _ w).alloc (Nat.le_refl _) _)⟩
  · have HN := Lib.hid (show pctB c = [c] by unfold pctB; rw [if_pos hsf])
    have HS := Lib.hid hsf
    have hcv := conv_new w [c] 1 rfl
    rw [show (cellsU [c]).toArray = #[Value.int .u8 (c.toNat : Int)] from rfl] at hcv
    clear hsf
    rw [HN.out]
    go_enter Tryd.func45, Tryd.ntmps45
    go_wp2_with fail
    refine (safe_any c _).mono ?_
    rintro e w1 ⟨rfl, rfl⟩
    rw [HS.out]
    go_wp2_with fail
    go_ret
    exact ⟨rfl, (Below.refl _ w).alloc (Nat.le_refl _) _⟩
def pctS (s : ByteArray) : ByteArray := mk ((bs s).flatMap pctB)
set_option maxRecDepth 100000 in
theorem percent_any (s : ByteArray) (w : World) (hs : s.size ≤ 1000000) : Calls Tryd.prog 27 #[.string s] w fun e w' => e = .returned (.string (pctS s)) ∧ Below w.heap.size w w' := by
  go_enter Tryd.func27, Tryd.ntmps27
  go_wp2_with fail
  refine (made_any 45 pctB (enters_of Tryd.func45 (by kernel_rfl) rfl) pct1_any pctB_len s _ hs).mono ?_
  rintro e w1 ⟨rfl, hb⟩
  go_wp2_with fail
  go_ret
  exact ⟨rfl, hb⟩
end Go.Proofs.YtmcjabmkacfilaaDoor
