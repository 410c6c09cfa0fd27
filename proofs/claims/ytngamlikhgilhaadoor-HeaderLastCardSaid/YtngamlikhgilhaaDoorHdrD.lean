/- header.Parse: plain laws, and the reading and writing of a header's cells. -/
import Derived.Test.YtngamlikhgilhaaDoorHdrC
namespace Go.Proofs.YtngamlikhgilhaaDoor
open Go.RowKit

/-- What lies between the bytes 59. -/
def segs : List UInt8 → List (List UInt8)
  | [] => [[]]
  | x :: l => if x = 59 then [] :: segs l else ((x :: (segs l).headD []) :: (segs l).tail)
theorem segs_cons (x : UInt8) (l : List UInt8) : segs (x :: l) = if x = 59 then [] :: segs l else ((x :: (segs l).headD []) :: (segs l).tail) := rfl
theorem segs_cut (l : List UInt8) : segs l = (cutL 59 l).1 :: (if (cutL 59 l).2.2 then segs (cutL 59 l).2.1 else []) := by
  induction l with
  | nil => rfl
  | cons x l ih =>
    by_cases hx : x = 59
    · rw [segs_cons, if_pos hx, cutL, if_pos hx]
      rfl
    · rw [segs_cons, if_neg hx, ih, cutL, if_neg hx]
      rfl
theorem cutL_nil {c : UInt8} : ∀ {l : List UInt8}, (cutL c l).2.2 = false → (cutL c l).2.1 = []
  | [], _ => rfl
  | x :: l, h => by
    unfold cutL at h ⊢
    split
    · rename_i hx; rw [if_pos hx] at h; cases h
    · rename_i hx; rw [if_neg hx] at h; exact cutL_nil h
/-- What an attribute, as it stands, does. -/
def stepH (now : Int) (p : Hd × Int) (l : List UInt8) : Hd × Int :=
  (attK (kindN (nameS (mk l))) p.1 (valueS (mk l)), agK (kindN (nameS (mk l))) p.2 now (valueS (mk l)))
theorem step_nil (now : Int) (p : Hd × Int) : stepH now p [] = p := by
  have h : kindN (nameS (mk [])) = 0 := by decide
  unfold stepH
  rw [h]
  rfl
def goH (now : Int) (p : Hd × Int) (l : List UInt8) : Hd × Int := (segs l).foldl (stepH now) p
theorem goH_nil (now : Int) (p : Hd × Int) : goH now p [] = p := step_nil now p
theorem goH_cut (now : Int) (p : Hd × Int) (l : List UInt8) : goH now p l = goH now (stepH now p (cutL 59 l).1) (cutL 59 l).2.1 := by
  conv => lhs; unfold goH; rw [segs_cut, List.foldl_cons]
  cases h : (cutL 59 l).2.2
  · rw [cutL_nil h, goH_nil]
    rfl
  · rfl
/-- The header behind its attributes. -/
def endH (p : Hd × Int) : Hd := if 0 < p.2 then { p.1 with ex := p.2 } else p.1
def zH : Hd := ⟨⟨#[]⟩, ⟨#[]⟩, ⟨#[]⟩, ⟨#[]⟩, 0, false, false, 0⟩
/-- What a text says as a header. -/
def parH (s : ByteArray) (now : Int) : Option Hd :=
  let f := cutL 59 (bs s)
  if 0 ≤ now ∧ now ≤ 253402300799 ∧ hasS (mk f.1) = true ∧ nameS (mk f.1) ≠ ⟨#[]⟩ then
    some (endH (goH now (⟨nameS (mk f.1), valueS (mk f.1), ⟨#[]⟩, ⟨#[]⟩, 0, false, false, 0⟩, 0) f.2.1))
  else none
def parV (o : Option Hd) : Value := .tuple #[hdA (o.getD zH), .bool o.isSome]
theorem loadH {W : World} {b : Nat} {f : Hd} (h : W.rangeAt b 0 (hdL f)) : (loadVar 23 ⟨b, 0, none⟩).run Tryd.prog W = .ok (hdA f) W := by
  have hu : (Tryd.prog.underlying 23).elim false TypeDesc.isRow = true := by kernel_rfl
  cases h1 : Tryd.prog.underlying 23 with
  | none => rw [h1] at hu; cases hu
  | some d =>
    rw [h1] at hu
    exact run_loadVar_mid W b 0 _ (hdL f) d h h1 hu (by kernel_rfl)
theorem loadOpH {ops : Array Oper} {rest : List Oper} {op : Oper} {a : Act} {W : World} {Q : Exit → Act → World → Prop} {b : Nat} {f : Hd} (h : W.rangeAt b 0 (hdL f)) (hgd : op.guard = none) (x : Operand) (ho : op.op = .load 23 x)
    (hx : a.eval x = .pointer (some ⟨b, 0, none⟩)) (hk : wpList Tryd.prog ops Q rest (a.put op.dst (hdA f)) W) : wpList Tryd.prog ops Q (op :: rest) a W := by
  have hu : (Tryd.prog.underlying 23).elim false TypeDesc.isRow = true := by kernel_rfl
  cases h1 : Tryd.prog.underlying 23 with
  | none => rw [h1] at hu; cases hu
  | some d =>
    rw [h1] at hu
    exact wpList_load_mid hgd _ x ho b 0 hx (hdL f) d h h1 hu (by kernel_rfl) hk
theorem storeOpH {ops : Array Oper} {rest : List Oper} {op : Oper} {a : Act} {W : World} {Q : Exit → Act → World → Prop} {b : Nat} {f : Hd} (h : W.there b 0 8) (hgd : op.guard = none) (x y : Operand) (ho : op.op = .store 23 x y)
    (hx : a.eval x = .pointer (some ⟨b, 0, none⟩)) (hy : a.eval y = hdA f) (hk : wpList Tryd.prog ops Q rest (a.put op.dst undef) (W.setCells b 0 (hdL f))) : wpList Tryd.prog ops Q (op :: rest) a W :=
  wpList_store_mid hgd _ x y ho b 0 (hdL f).toArray hx hy h (by kernel_rfl) (hdL_one f) hk
theorem resH {W : World} {b : Nat} {f : Hd} {x : Bool} {a : Act} (h4 : a.tmps[4]?.getD undef = .pointer (some ⟨b, 0, none⟩)) (h5 : a.tmps[5]?.getD undef = .bool x) (h : W.rangeAt b 0 (hdL f)) : (results Tryd.f6 a.tmps).run Tryd.prog W = .ok (.tuple #[hdA f, .bool x]) W := by
  have h1 := loadH h
  simp [results, Tryd.results6, asAddr, h4, h5, h1]
theorem Below.hsetCells {n b : Nat} {w : World} (hb : n ≤ b) : ∀ (vs : List Value) (o : Nat) (W : World), Below n w W → Below n w (W.setCells b o vs)
  | [], _, _, h => h
  | v :: r, o, W, h => by
    rw [World.setCells]
    exact Below.hsetCells hb r (o + 1) _ (h.setCell hb v)
end Go.Proofs.YtngamlikhgilhaaDoor
