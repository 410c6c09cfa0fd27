/- Addresses: the contract of path.Text. -/
import Derived.Test.YtnjmhkehckhihaaDoorPathG
namespace Go.Proofs.YtnjmhkehckhihaaDoor
open Go.RowKit

def textS (sec : Bool) (h p : ByteArray) : ByteArray := (if sec then safeS else openS) ++ h ++ p
theorem urlV_mk (a : Bool) (b c : ByteArray) (n : Int) : urlV ((a, b, c), n) = .tuple #[.agg #[.bool a, .string b, .string c], .int .i64 n] := rfl
set_option maxHeartbeats 1000000 in
set_option maxRecDepth 100000 in
theorem text_true_err (h p : ByteArray) (sec' : Bool) (h' p' : ByteArray) (n : Int) (w : World) (hh : h.size ≤ 1000) (hp : p.size ≤ 1000) (hm : HasMax w) (hr : parseO (textS true h p) = ((sec', h', p'), n)) (hn : (n == 0) = false) :
    Calls Tryd.prog 18 #[.agg #[.bool true, .string h, .string p]] w fun e w' => e = .returned (.tuple #[.string ByteArray.empty, .bool false]) ∧ Below w.heap.size w w' := by
  have hz : (textS true h p).size ≤ 9223372036854775806 := by
    unfold textS
    rw [ByteArray.size_append, ByteArray.size_append, if_pos rfl, show safeS.size = 8 from rfl]
    omega
  have e1 : (⟨#[104, 116, 116, 112, 115, 58, 47, 47]⟩ : ByteArray) ++ h ++ p = textS true h p := rfl
  have k1 : ¬ (9223372036854775807 < 8 + h.size) := by omega
  have k2 : ¬ (9223372036854775807 < 8 + h.size + p.size) := by omega
  have k3 : ¬ (9223372036854775807 < 7 + h.size) := by omega
  have k4 : ¬ (9223372036854775807 < 7 + h.size + p.size) := by omega
  have HR := Lib.hid hr
  have HZ := Lib.hid hz
  have HE := Lib.hid e1
  have HM := Lib.hid hm
  have hn2 : (n != 0) = true := by rw [bne, hn]; rfl
  clear hr hz hm e1
  go_enter Tryd.func18, Tryd.ntmps18
  go_wp2_with fail
  rw [HE.out]
  refine (parse_any (textS true h p) _ HZ.out ?hm).mono ?_
  case hm => exact max_keep HM.out ((Below.refl _ _).alloc (Nat.le_refl _) _)
  rintro e w1 ⟨rfl, hb1⟩
  rw [HR.out, urlV_mk]
  have hB := Below.snoc ((Below.refl _ w).alloc (Nat.le_refl _) _) hb1
  obtain ⟨hc1, hf1⟩ := bcell hb1
  have hz1 : w.heap.size < w1.heap.size := by have := hb1.size; simp at this; omega
  clear hb1
  go_wp2_with fail
  all_goals first | (go_ret2; exact ⟨rfl, by repeat (first | assumption | exact Nat.le_refl _ | exact hB.size | (refine Below.setCell ?_ ?_ _) | (refine Below.alloc ?_ ?_ _))⟩)
set_option maxHeartbeats 1000000 in
set_option maxRecDepth 100000 in
theorem text_true_same (h p : ByteArray)  (w : World) (hh : h.size ≤ 1000) (hp : p.size ≤ 1000) (hm : HasMax w) (hr : parseO (textS true h p) = ((true, h, p), 0)) :
    Calls Tryd.prog 18 #[.agg #[.bool true, .string h, .string p]] w fun e w' => e = .returned (.tuple #[.string (textS true h p), .bool true]) ∧ Below w.heap.size w w' := by
  have hz : (textS true h p).size ≤ 9223372036854775806 := by
    unfold textS
    rw [ByteArray.size_append, ByteArray.size_append, if_pos rfl, show safeS.size = 8 from rfl]
    omega
  have e1 : (⟨#[104, 116, 116, 112, 115, 58, 47, 47]⟩ : ByteArray) ++ h ++ p = textS true h p := rfl
  have k1 : ¬ (9223372036854775807 < 8 + h.size) := by omega
  have k2 : ¬ (9223372036854775807 < 8 + h.size + p.size) := by omega
  have k3 : ¬ (9223372036854775807 < 7 + h.size) := by omega
  have k4 : ¬ (9223372036854775807 < 7 + h.size + p.size) := by omega
  have HR := Lib.hid hr
  have HZ := Lib.hid hz
  have HE := Lib.hid e1
  have HM := Lib.hid hm
  clear hr hz hm e1
  go_enter Tryd.func18, Tryd.ntmps18
  go_wp2_with fail
  rw [HE.out]
  refine (parse_any (textS true h p) _ HZ.out ?hm).mono ?_
  case hm => exact max_keep HM.out ((Below.refl _ _).alloc (Nat.le_refl _) _)
  rintro e w1 ⟨rfl, hb1⟩
  rw [HR.out, urlV_mk]
  have hB := Below.snoc ((Below.refl _ w).alloc (Nat.le_refl _) _) hb1
  obtain ⟨hc1, hf1⟩ := bcell hb1
  have hz1 : w.heap.size < w1.heap.size := by have := hb1.size; simp at this; omega
  clear hb1
  go_wp2_with fail
  all_goals first | (go_ret2; exact ⟨rfl, by repeat (first | assumption | exact Nat.le_refl _ | exact hB.size | (refine Below.setCell ?_ ?_ _) | (refine Below.alloc ?_ ?_ _))⟩)
set_option maxHeartbeats 1000000 in
set_option maxRecDepth 100000 in
theorem text_true_diff (h p : ByteArray) (sec' : Bool) (h' p' : ByteArray) (w : World) (hh : h.size ≤ 1000) (hp : p.size ≤ 1000) (hm : HasMax w) (hr : parseO (textS true h p) = ((sec', h', p'), 0)) (hd : ((sec' == true) && (h'.toList == h.toList) && (p'.toList == p.toList)) = false) :
    Calls Tryd.prog 18 #[.agg #[.bool true, .string h, .string p]] w fun e w' => e = .returned (.tuple #[.string ByteArray.empty, .bool false]) ∧ Below w.heap.size w w' := by
  have hz : (textS true h p).size ≤ 9223372036854775806 := by
    unfold textS
    rw [ByteArray.size_append, ByteArray.size_append, if_pos rfl, show safeS.size = 8 from rfl]
    omega
  have e1 : (⟨#[104, 116, 116, 112, 115, 58, 47, 47]⟩ : ByteArray) ++ h ++ p = textS true h p := rfl
  have k1 : ¬ (9223372036854775807 < 8 + h.size) := by omega
  have k2 : ¬ (9223372036854775807 < 8 + h.size + p.size) := by omega
  have k3 : ¬ (9223372036854775807 < 7 + h.size) := by omega
  have k4 : ¬ (9223372036854775807 < 7 + h.size + p.size) := by omega
  have HR := Lib.hid hr
  have HZ := Lib.hid hz
  have HE := Lib.hid e1
  have HM := Lib.hid hm
  clear hr hz hm e1
  go_enter Tryd.func18, Tryd.ntmps18
  go_wp2_with fail
  rw [HE.out]
  refine (parse_any (textS true h p) _ HZ.out ?hm).mono ?_
  case hm => exact max_keep HM.out ((Below.refl _ _).alloc (Nat.le_refl _) _)
  rintro e w1 ⟨rfl, hb1⟩
  rw [HR.out, urlV_mk]
  have hB := Below.snoc ((Below.refl _ w).alloc (Nat.le_refl _) _) hb1
  obtain ⟨hc1, hf1⟩ := bcell hb1
  have hz1 : w.heap.size < w1.heap.size := by have := hb1.size; simp at this; omega
  clear hb1
  go_wp2_with fail
  all_goals first | (go_ret2; exact ⟨rfl, by repeat (first | assumption | exact Nat.le_refl _ | exact hB.size | (refine Below.setCell ?_ ?_ _) | (refine Below.alloc ?_ ?_ _))⟩) | (exfalso; simp_all)
set_option maxHeartbeats 1000000 in
set_option maxRecDepth 100000 in
theorem text_false_err (h p : ByteArray) (sec' : Bool) (h' p' : ByteArray) (n : Int) (w : World) (hh : h.size ≤ 1000) (hp : p.size ≤ 1000) (hm : HasMax w) (hr : parseO (textS false h p) = ((sec', h', p'), n)) (hn : (n == 0) = false) :
    Calls Tryd.prog 18 #[.agg #[.bool false, .string h, .string p]] w fun e w' => e = .returned (.tuple #[.string ByteArray.empty, .bool false]) ∧ Below w.heap.size w w' := by
  have hz : (textS false h p).size ≤ 9223372036854775806 := by
    unfold textS
    rw [ByteArray.size_append, ByteArray.size_append, if_neg (by simp), show openS.size = 7 from rfl]
    omega
  have e1 : (⟨#[104, 116, 116, 112, 58, 47, 47]⟩ : ByteArray) ++ h ++ p = textS false h p := rfl
  have k1 : ¬ (9223372036854775807 < 8 + h.size) := by omega
  have k2 : ¬ (9223372036854775807 < 8 + h.size + p.size) := by omega
  have k3 : ¬ (9223372036854775807 < 7 + h.size) := by omega
  have k4 : ¬ (9223372036854775807 < 7 + h.size + p.size) := by omega
  have HR := Lib.hid hr
  have HZ := Lib.hid hz
  have HE := Lib.hid e1
  have HM := Lib.hid hm
  have hn2 : (n != 0) = true := by rw [bne, hn]; rfl
  clear hr hz hm e1
  go_enter Tryd.func18, Tryd.ntmps18
  go_wp2_with fail
  rw [HE.out]
  refine (parse_any (textS false h p) _ HZ.out ?hm).mono ?_
  case hm => exact max_keep HM.out ((Below.refl _ _).alloc (Nat.le_refl _) _)
  rintro e w1 ⟨rfl, hb1⟩
  rw [HR.out, urlV_mk]
  have hB := Below.snoc ((Below.refl _ w).alloc (Nat.le_refl _) _) hb1
  obtain ⟨hc1, hf1⟩ := bcell hb1
  have hz1 : w.heap.size < w1.heap.size := by have := hb1.size; simp at this; omega
  clear hb1
  go_wp2_with fail
  all_goals first | (go_ret2; exact ⟨rfl, by repeat (first | assumption | exact Nat.le_refl _ | exact hB.size | (refine Below.setCell ?_ ?_ _) | (refine Below.alloc ?_ ?_ _))⟩)
set_option maxHeartbeats 1000000 in
set_option maxRecDepth 100000 in
theorem text_false_same (h p : ByteArray)  (w : World) (hh : h.size ≤ 1000) (hp : p.size ≤ 1000) (hm : HasMax w) (hr : parseO (textS false h p) = ((false, h, p), 0)) :
    Calls Tryd.prog 18 #[.agg #[.bool false, .string h, .string p]] w fun e w' => e = .returned (.tuple #[.string (textS false h p), .bool true]) ∧ Below w.heap.size w w' := by
  have hz : (textS false h p).size ≤ 9223372036854775806 := by
    unfold textS
    rw [ByteArray.size_append, ByteArray.size_append, if_neg (by simp), show openS.size = 7 from rfl]
    omega
  have e1 : (⟨#[104, 116, 116, 112, 58, 47, 47]⟩ : ByteArray) ++ h ++ p = textS false h p := rfl
  have k1 : ¬ (9223372036854775807 < 8 + h.size) := by omega
  have k2 : ¬ (9223372036854775807 < 8 + h.size + p.size) := by omega
  have k3 : ¬ (9223372036854775807 < 7 + h.size) := by omega
  have k4 : ¬ (9223372036854775807 < 7 + h.size + p.size) := by omega
  have HR := Lib.hid hr
  have HZ := Lib.hid hz
  have HE := Lib.hid e1
  have HM := Lib.hid hm
  clear hr hz hm e1
  go_enter Tryd.func18, Tryd.ntmps18
  go_wp2_with fail
  rw [HE.out]
  refine (parse_any (textS false h p) _ HZ.out ?hm).mono ?_
  case hm => exact max_keep HM.out ((Below.refl _ _).alloc (Nat.le_refl _) _)
  rintro e w1 ⟨rfl, hb1⟩
  rw [HR.out, urlV_mk]
  have hB := Below.snoc ((Below.refl _ w).alloc (Nat.le_refl _) _) hb1
  obtain ⟨hc1, hf1⟩ := bcell hb1
  have hz1 : w.heap.size < w1.heap.size := by have := hb1.size; simp at this; omega
  clear hb1
  go_wp2_with fail
  all_goals first | (go_ret2; exact ⟨rfl, by repeat (first | assumption | exact Nat.le_refl _ | exact hB.size | (refine Below.setCell ?_ ?_ _) | (refine Below.alloc ?_ ?_ _))⟩)
set_option maxHeartbeats 1000000 in
set_option maxRecDepth 100000 in
theorem text_false_diff (h p : ByteArray) (sec' : Bool) (h' p' : ByteArray) (w : World) (hh : h.size ≤ 1000) (hp : p.size ≤ 1000) (hm : HasMax w) (hr : parseO (textS false h p) = ((sec', h', p'), 0)) (hd : ((sec' == false) && (h'.toList == h.toList) && (p'.toList == p.toList)) = false) :
    Calls Tryd.prog 18 #[.agg #[.bool false, .string h, .string p]] w fun e w' => e = .returned (.tuple #[.string ByteArray.empty, .bool false]) ∧ Below w.heap.size w w' := by
  have hz : (textS false h p).size ≤ 9223372036854775806 := by
    unfold textS
    rw [ByteArray.size_append, ByteArray.size_append, if_neg (by simp), show openS.size = 7 from rfl]
    omega
  have e1 : (⟨#[104, 116, 116, 112, 58, 47, 47]⟩ : ByteArray) ++ h ++ p = textS false h p := rfl
  have k1 : ¬ (9223372036854775807 < 8 + h.size) := by omega
  have k2 : ¬ (9223372036854775807 < 8 + h.size + p.size) := by omega
  have k3 : ¬ (9223372036854775807 < 7 + h.size) := by omega
  have k4 : ¬ (9223372036854775807 < 7 + h.size + p.size) := by omega
  have HR := Lib.hid hr
  have HZ := Lib.hid hz
  have HE := Lib.hid e1
  have HM := Lib.hid hm
  clear hr hz hm e1
  go_enter Tryd.func18, Tryd.ntmps18
  go_wp2_with fail
  rw [HE.out]
  refine (parse_any (textS false h p) _ HZ.out ?hm).mono ?_
  case hm => exact max_keep HM.out ((Below.refl _ _).alloc (Nat.le_refl _) _)
  rintro e w1 ⟨rfl, hb1⟩
  rw [HR.out, urlV_mk]
  have hB := Below.snoc ((Below.refl _ w).alloc (Nat.le_refl _) _) hb1
  obtain ⟨hc1, hf1⟩ := bcell hb1
  have hz1 : w.heap.size < w1.heap.size := by have := hb1.size; simp at this; omega
  clear hb1
  go_wp2_with fail
  all_goals first | (go_ret2; exact ⟨rfl, by repeat (first | assumption | exact Nat.le_refl _ | exact hB.size | (refine Below.setCell ?_ ?_ _) | (refine Below.alloc ?_ ?_ _))⟩) | (exfalso; simp_all)
end Go.Proofs.YtnjmhkehckhihaaDoor
