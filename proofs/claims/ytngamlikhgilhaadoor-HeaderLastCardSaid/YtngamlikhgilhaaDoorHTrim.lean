/- Contracts of the functions Trim and Cut of package ascii and of its reference. -/
import Derived.Test.YtngamlikhgilhaaDoorAsciiD
import Derived.Test.YtngamlikhgilhaaDoorTrimM
import Derived.Test.YtngamlikhgilhaaDoorShelf
import Derived.Lib.IndexLaws
namespace Go.Proofs.YtngamlikhgilhaaDoor
open Go.RowKit

theorem lib_trim (l : List UInt8) : Lib.trimS l [32, 9] = trimL l := by
  have hp : (fun x => ([32, 9] : List UInt8).contains x) = blk := by
    funext x
    rw [Bool.eq_iff_iff]
    simp [blk]
  unfold Lib.trimS Lib.trimLeftS Lib.trimRightS trimL rdw
  rw [hp]
theorem libTrim_any (s : ByteArray) (w : World) (hs : s.size ≤ 9223372036854775807) : Calls Tryd.prog 34 #[.string s, .string ⟨#[32, 9]⟩] w fun e w' => e = .returned (.string (trimS s)) ∧ Below w.heap.size w w' := by
  refine (Any.strings_Trim_laid Tryd.lays160 (by kernel_rfl) s ⟨#[32, 9]⟩ w hs (by decide) (ascii_of_all (by decide))).mono ?_
  rintro e w' ⟨rfl, hb⟩
  exact ⟨by rw [show (⟨#[32, 9]⟩ : ByteArray).data.toList = [32, 9] from rfl, lib_trim]; rfl, hb⟩
theorem trim_any (s : ByteArray) (w : World) (hs : s.size ≤ 9223372036854775807) : Calls Tryd.prog 22 #[.string s] w fun e w' => e = .returned (.string (trimS s)) ∧ Below w.heap.size w w' := by
  go_enter Tryd.func22, Tryd.ntmps22
  go_wp2_with fail
  refine (libTrim_any s _ hs).mono ?_
  rintro e w' ⟨rfl, hb⟩
  go_wp2_with fail
  go_ret
  exact ⟨rfl, hb⟩

theorem blk_at (c : UInt8) : (((c.toNat : Int) == 9) || ((c.toNat : Int) == 32)) = blk c := by
  unfold blk
  rw [Bool.eq_iff_iff]
  simp only [Bool.or_eq_true, beq_iff_eq, ← UInt8.toNat_inj]
  have h1 : (9 : UInt8).toNat = 9 := rfl
  have h2 : (32 : UInt8).toNat = 32 := rfl
  omega
theorem get_bsT (t : ByteArray) (k : Nat) (h : k < t.size) : t[k] = (bs t)[k]'(by rw [← size_bs]; exact h) := rfl
theorem drop_one (t : ByteArray) (h : 0 < t.size) (hb : blk (t[0]'h) = true) : (bs (t.extract 1 t.size)).dropWhile blk = (bs t).dropWhile blk := by
  rw [bs_extract, List.take_of_length_le (by rw [← size_bs]; exact Nat.le_refl _)]
  have h' : 0 < (bs t).length := by rw [← size_bs]; exact h
  rw [get_bsT t 0 h] at hb
  cases hl : bs t with
  | nil => rw [hl] at h'; simp at h'
  | cons x r =>
    simp only [hl, List.getElem_cons_zero] at hb
    simp [hb]
theorem drop_done (t : ByteArray) (h : 0 < t.size) (hb : blk (t[0]'h) = false) : (bs t).dropWhile blk = bs t := by
  have h' : 0 < (bs t).length := by rw [← size_bs]; exact h
  rw [get_bsT t 0 h] at hb
  cases hl : bs t with
  | nil => rfl
  | cons x r =>
    simp only [hl, List.getElem_cons_zero] at hb
    rw [List.dropWhile_cons_of_neg (by simp [hb])]
theorem last_one (t : ByteArray) (h : t.size - 1 < t.size) (hb : blk (t[t.size - 1]'h) = true) : rdw blk (bs (t.extract 0 (t.size - 1))) = rdw blk (bs t) := by
  rw [bs_extract, List.drop_zero]
  rw [get_bsT t _ h] at hb
  have h' : (bs t).length - 1 < (bs t).length := by rw [← size_bs]; exact h
  have e : bs t = (bs t).take ((bs t).length - 1) ++ [(bs t)[(bs t).length - 1]] := by
    have := List.take_succ_eq_append_getElem h'
    rw [← this, List.take_of_length_le (by omega)]
  have hs := size_bs t
  simp only [hs] at hb ⊢
  conv => rhs; rw [e]
  rw [rdw_snoc_yes _ _ _ hb]
theorem last_done (t : ByteArray) (h : t.size - 1 < t.size) (hb : blk (t[t.size - 1]'h) = false) : rdw blk (bs t) = bs t := by
  rw [get_bsT t _ h] at hb
  have h' : (bs t).length - 1 < (bs t).length := by rw [← size_bs]; exact h
  have e : bs t = (bs t).take ((bs t).length - 1) ++ [(bs t)[(bs t).length - 1]] := by
    have := List.take_succ_eq_append_getElem h'
    rw [← this, List.take_of_length_le (by omega)]
  have hs := size_bs t
  simp only [hs] at hb
  rw [e, rdw_snoc_no _ _ _ hb]
theorem size_zero {t : ByteArray} (h : t.size = 0) : bs t = [] := by
  rw [size_bs] at h
  exact List.length_eq_zero_iff.1 h

/-- How long a text in a slot is. -/
def ssz : Value → Nat
  | .string t => t.size
  | _ => 0
theorem trim_fin {s t u : ByteArray} (h1 : bs t = (bs s).dropWhile blk) (h2 : rdw blk (bs u) = rdw blk (bs t)) (h3 : rdw blk (bs u) = bs u) : trimS s = u := by
  unfold trimS trimL
  rw [dw_rdw, ← h1, ← h2, h3, mk_bs]

end Go.Proofs.YtngamlikhgilhaaDoor
