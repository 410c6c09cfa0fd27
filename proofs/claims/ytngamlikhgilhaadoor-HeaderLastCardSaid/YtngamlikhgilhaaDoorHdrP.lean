/- Headers: plain laws: an attribute more, blanks more. -/
import Derived.Test.YtngamlikhgilhaaDoorHdrE
namespace Go.Proofs.YtngamlikhgilhaaDoor
open Go.RowKit

theorem segs_ne (l : List UInt8) : segs l ≠ [] := by
  cases l with
  | nil => exact fun h => by cases h
  | cons x l =>
    rw [segs_cons]
    split
    · exact fun h => by cases h
    · exact fun h => by cases h
theorem segs_app (a b : List UInt8) : segs (a ++ 59 :: b) = segs a ++ segs b := by
  induction a with
  | nil => rw [List.nil_append, segs_cons, if_pos rfl]; rfl
  | cons x l ih =>
    rw [List.cons_append, segs_cons, segs_cons, ih]
    split
    · rfl
    · have h := segs_ne l
      cases h1 : segs l with
      | nil => exact absurd h1 h
      | cons y r => rfl
/-- A header's parts, from the second on, taken in turn; the pair ahead of the end. -/
def parP (s : List UInt8) (now : Int) : Option (Hd × Int) :=
  if 0 ≤ now ∧ now ≤ 253402300799 ∧ hasS (mk ((segs s).headD [])) = true ∧ nameS (mk ((segs s).headD [])) ≠ ⟨#[]⟩ then
    some ((segs s).tail.foldl (stepH now) (⟨nameS (mk ((segs s).headD [])), valueS (mk ((segs s).headD [])), ⟨#[]⟩, ⟨#[]⟩, 0, false, false, 0⟩, 0))
  else none
theorem par_P (s : ByteArray) (now : Int) : parH s now = (parP (bs s) now).map endH := by
  have h1 : (segs (bs s)).headD [] = (cutL 59 (bs s)).1 := by rw [segs_cut]; rfl
  have h2 : ∀ p, (segs (bs s)).tail.foldl (stepH now) p = goH now p (cutL 59 (bs s)).2.1 := by
    intro p
    rw [segs_cut, List.tail_cons]
    cases h : (cutL 59 (bs s)).2.2
    · rw [cutL_nil h, goH_nil]
      rfl
    · rfl
  unfold parH parP
  rw [h1, h2]
  dsimp only
  split
  · rfl
  · rfl
theorem parP_more (a b : List UInt8) (now : Int) : parP (a ++ 59 :: b) now = (parP a now).map (fun p => (segs b).foldl (stepH now) p) := by
  unfold parP
  rw [segs_app]
  have h := segs_ne a
  cases h1 : segs a with
  | nil => exact absurd h1 h
  | cons y r =>
    rw [List.cons_append, List.headD_cons, List.tail_cons, List.headD_cons, List.tail_cons]
    split
    · rw [Option.map_some, List.foldl_append]
    · rfl
theorem segs_one {l : List UInt8} (h : ∀ x ∈ l, x ≠ 59) : segs l = [l] := by
  induction l with
  | nil => rfl
  | cons x l ih =>
    rw [segs_cons, if_neg (h x (List.mem_cons_self ..)), ih (fun y hy => h y (List.mem_cons_of_mem _ hy))]
    rfl
/-- A header and one attribute more. -/
theorem par_more1 {s : ByteArray} {now : Int} {p : Hd × Int} (b : List UInt8) (hb : ∀ x ∈ b, x ≠ 59) (h : parP (bs s) now = some p) (t : ByteArray) (ht : bs t = bs s ++ 59 :: b) : parH t now = some (endH (stepH now p b)) := by
  rw [par_P, ht, parP_more, h, segs_one hb]
  rfl
theorem par_some {s : ByteArray} {now : Int} {h : Hd} (hp : parH s now = some h) : ∃ p, parP (bs s) now = some p ∧ endH p = h := by
  rw [par_P] at hp
  cases h1 : parP (bs s) now with
  | none => rw [h1] at hp; cases hp
  | some p => rw [h1] at hp; exact ⟨p, rfl, by injection hp⟩
theorem par_now {s : ByteArray} {now : Int} {h : Hd} (hp : parH s now = some h) : 0 ≤ now ∧ now ≤ 253402300799 := by
  unfold parH at hp
  dsimp only at hp
  split at hp
  · rename_i h1
    exact ⟨h1.1, h1.2.1⟩
  · cases hp
theorem step_lit (now : Int) (p : Hd × Int) (l : List UInt8) (k : Nat) (v : ByteArray) (h1 : kindN (nameS (mk l)) = k) (h2 : valueS (mk l) = v) : stepH now p l = (attK k p.1 v, agK k p.2 now v) := by
  unfold stepH; rw [h1, h2]
theorem lit_path (now : Int) (p : Hd × Int) : stepH now p [32, 80, 97, 116, 104, 61, 47, 122] = ({ p.1 with pt := ⟨#[47, 122]⟩ }, p.2) := by
  rw [step_lit now p [32, 80, 97, 116, 104, 61, 47, 122] 4 ⟨#[47, 122]⟩ (by decide) (by decide)]
  have h : preB ⟨#[47, 122]⟩ ⟨#[47]⟩ = true := by rw [pre_L]; decide
  unfold attK agK
  dsimp only
  rw [h, if_neg (by decide : ¬ (4 : Nat) = 2)]
  rfl
theorem lit_path0 (now : Int) (p : Hd × Int) : stepH now p [112, 97, 116, 104, 61, 122] = ({ p.1 with pt := ⟨#[]⟩ }, p.2) := by
  rw [step_lit now p [112, 97, 116, 104, 61, 122] 4 ⟨#[122]⟩ (by decide) (by decide)]
  have h : preB ⟨#[122]⟩ ⟨#[47]⟩ = false := by rw [pre_L]; decide
  unfold attK agK
  dsimp only
  rw [h, if_neg (by decide : ¬ (4 : Nat) = 2)]
  rfl
theorem lit_site (now : Int) (p : Hd × Int) : stepH now p [32, 83, 97, 109, 101, 83, 105, 116, 101, 61, 115, 116, 114, 105, 99, 116] = ({ p.1 with st := 2 }, p.2) :=
  step_lit now p [32, 83, 97, 109, 101, 83, 105, 116, 101, 61, 115, 116, 114, 105, 99, 116] 7 ⟨#[115, 116, 114, 105, 99, 116]⟩ (by decide) (by decide)
theorem lit_site0 (now : Int) (p : Hd × Int) : stepH now p [115, 97, 109, 101, 115, 105, 116, 101] = ({ p.1 with st := 0 }, p.2) :=
  step_lit now p [115, 97, 109, 101, 115, 105, 116, 101] 7 ⟨#[]⟩ (by decide) (by decide)
theorem lit_dom (now : Int) (p : Hd × Int) : stepH now p [32, 68, 79, 77, 65, 73, 78, 61, 46, 90] = ({ p.1 with dm := ⟨#[122]⟩ }, p.2) :=
  step_lit now p [32, 68, 79, 77, 65, 73, 78, 61, 46, 90] 3 ⟨#[46, 90]⟩ (by decide) (by decide)
theorem lit_dom0 (now : Int) (p : Hd × Int) : stepH now p [32, 100, 111, 109, 97, 105, 110, 61, 46] = p :=
  step_lit now p [32, 100, 111, 109, 97, 105, 110, 61, 46] 3 ⟨#[46]⟩ (by decide) (by decide)
theorem endH_pt (p : Hd × Int) (v : ByteArray) : endH ({ p.1 with pt := v }, p.2) = { endH p with pt := v } := by unfold endH; dsimp only; split <;> rfl
theorem endH_st (p : Hd × Int) (v : Int) : endH ({ p.1 with st := v }, p.2) = { endH p with st := v } := by unfold endH; dsimp only; split <;> rfl
theorem endH_dm (p : Hd × Int) (v : ByteArray) : endH ({ p.1 with dm := v }, p.2) = { endH p with dm := v } := by unfold endH; dsimp only; split <;> rfl
end Go.Proofs.YtngamlikhgilhaaDoor
