/- Contract of the reference's attribute. (printed by wip/genparc.py) -/
import Derived.Test.YtngamlikhgilhaaGreatDoorParB
import Derived.Test.YtngamlikhgilhaaGreatDoorMoreA
import Derived.Test.YtngamlikhgilhaaGreatDoorRBlk
import Derived.Test.YtngamlikhgilhaaGreatDoorZP
import Derived.Deep.MidRow
namespace Go.Proofs.YtngamlikhgilhaaGreatDoor
open Go.RowKit Go.Shelf

theorem load16 {W : World} {b : Nat} {f : Hd} (h : W.rangeAt b 0 (hdL f)) : (loadVar 27 ⟨b, 0, none⟩).run Tryz.prog W = .ok (hdA f) W := by
  have hu : (Tryz.prog.underlying 27).elim false TypeDesc.isRow = true := by kernel_rfl
  cases h1 : Tryz.prog.underlying 27 with
  | none => rw [h1] at hu; cases hu
  | some d =>
    rw [h1] at hu
    exact run_loadVar_mid W b 0 _ (hdL f) d h h1 hu (by kernel_rfl)
theorem loadOp16 {ops : Array Oper} {rest : List Oper} {op : Oper} {a : Act} {W : World} {Q : Exit → Act → World → Prop} {b : Nat} {f : Hd} (h : W.rangeAt b 0 (hdL f)) (hgd : op.guard = none) (x : Operand) (ho : op.op = .load 27 x)
    (hx : a.eval x = .pointer (some ⟨b, 0, none⟩)) (hk : wpList Tryz.prog ops Q rest (a.put op.dst (hdA f)) W) : wpList Tryz.prog ops Q (op :: rest) a W := by
  have hu : (Tryz.prog.underlying 27).elim false TypeDesc.isRow = true := by kernel_rfl
  cases h1 : Tryz.prog.underlying 27 with
  | none => rw [h1] at hu; cases hu
  | some d =>
    rw [h1] at hu
    exact wpList_load_mid hgd _ x ho b 0 hx (hdL f) d h h1 hu (by kernel_rfl) hk
theorem storeOp16 {ops : Array Oper} {rest : List Oper} {op : Oper} {a : Act} {W : World} {Q : Exit → Act → World → Prop} {b : Nat} {f : Hd} (h : W.there b 0 8) (hgd : op.guard = none) (x y : Operand) (ho : op.op = .store 27 x y)
    (hx : a.eval x = .pointer (some ⟨b, 0, none⟩)) (hy : a.eval y = hdA f) (hk : wpList Tryz.prog ops Q rest (a.put op.dst undef) (W.setCells b 0 (hdL f))) : wpList Tryz.prog ops Q (op :: rest) a W :=
  wpList_store_mid hgd _ x y ho b 0 (hdL f).toArray hx hy h (by kernel_rfl) (hdL_one f) hk
theorem resA16 {w : World} {b : Nat} {f : Hd} {a : Act} (ha : a.tmps[6]?.getD undef = .pointer (some ⟨b, 0, none⟩)) (h : w.rangeAt b 0 (hdL f)) : (results Tryz.f27 a.tmps).run Tryz.prog w = .ok (hdA f) w := by
  have h1 := load16 h
  simp [results, Tryz.results27, asAddr, ha, h1]
theorem RB.fzs {b : Nat} {W : World} {h : Hd} (H : RB b W h) : W.frozen? ⟨b, 0, none⟩ = false ∧ W.frozen? ⟨b, 1, none⟩ = false ∧ W.frozen? ⟨b, 2, none⟩ = false ∧ W.frozen? ⟨b, 3, none⟩ = false ∧ W.frozen? ⟨b, 4, none⟩ = false ∧ W.frozen? ⟨b, 5, none⟩ = false ∧ W.frozen? ⟨b, 6, none⟩ = false ∧ W.frozen? ⟨b, 7, none⟩ = false :=
  ⟨(H.wr 0 (by decide)).2, (H.wr 1 (by decide)).2, (H.wr 2 (by decide)).2, (H.wr 3 (by decide)).2, (H.wr 4 (by decide)).2, (H.wr 5 (by decide)).2, (H.wr 6 (by decide)).2, (H.wr 7 (by decide)).2⟩
/-- attribute's memory: the header, and the result's cells. -/
structure RA (w W : World) (h : Hd) : Prop where
  a : RB w.heap.size W h
  z : W.there (w.heap.size + 1) 0 8
  lt : w.heap.size + 1 < W.heap.size
  bel : Below w.heap.size w W
theorem RA.new (nm vl dm pt : ByteArray) (ex : Int) (se ho : Bool) (st : Int) (w : World) : ∃ v, v = (w.alloc (.cells #[.string nm, .string vl, .string dm, .string pt, .int .i64 ex, .bool se, .bool ho, .int .i64 st] 27)).alloc (.cells #[.string ⟨#[]⟩, .string ⟨#[]⟩, .string ⟨#[]⟩, .string ⟨#[]⟩, .int .i64 0, .bool false, .bool false, .int .i64 0] 27) ∧ RA w v ⟨nm, vl, dm, pt, ex, se, ho, st⟩ := by
  obtain ⟨v, e, r1, _, hb, hz⟩ := box_hd nm vl dm pt ex se ho st w w 27 (Below.refl _ _)
  obtain ⟨u, e2, r3, r4, hb2, hz2⟩ := box_hd ⟨#[]⟩ ⟨#[]⟩ ⟨#[]⟩ ⟨#[]⟩ 0 false false 0 w v 27 hb
  exact ⟨u, by rw [e2, e], r4 _ _ r1, hz ▸ r3.wr, by rw [hz2, hz]; omega, hb2⟩
theorem RA.keep {w W W' : World} {h : Hd} (H : RA w W h) (hb : Below W.heap.size W W') : RA w W' h :=
  ⟨H.a.keep hb, hthere_keep H.z hb H.lt, Nat.lt_of_lt_of_le H.lt hb.size, H.bel.trans (hb.mono H.bel.size)⟩
theorem RA.set {w W : World} {h g : Hd} (H : RA w W h) (j : Nat) (v : Value) (hg : (hdL h).set j v = hdL g) : RA w (W.setCell ⟨w.heap.size, j, none⟩ v) g :=
  ⟨H.a.set j v hg, hthere_set H.z _ _, by rw [World.size_setCell]; exact H.lt, H.bel.setCell (Nat.le_refl _) _⟩
theorem dom_empty : domS ⟨#[]⟩ = ⟨#[]⟩ := by decide
theorem dom_dot {v : ByteArray} (h0 : 0 < v.size) (hc : v[0].toNat = 46) : domS v = lowS (v.extract 1 v.size) := by
  have e : bs v = 46 :: (bs v).drop 1 := by
    have := first_mk h0
    have h2 := congrArg bs this
    rw [bs_mk, show v[0] = 46 from UInt8.toNat.inj hc] at h2
    exact h2
  apply bs_inj
  show (Lib.trimPrefix ((bs v).map low) [46]) = (bs (v.extract 1 v.size)).map low
  rw [bs_extract, List.take_of_length_le (by rw [← size_bs]; exact Nat.le_refl _)]
  generalize (bs v).drop 1 = l at *
  rw [e]
  rw [List.map_cons, show low 46 = 46 from by decide]
  unfold Lib.trimPrefix
  rw [if_pos (by simp [Lib.hasPrefix, List.isPrefixOf])]
  rfl
theorem dom_nodot {v : ByteArray} (h0 : 0 < v.size) (hc : v[0].toNat ≠ 46) : domS v = lowS v := by
  have e := congrArg bs (first_mk h0)
  rw [bs_mk] at e
  apply bs_inj
  show (Lib.trimPrefix ((bs v).map low) [46]) = (bs v).map low
  unfold Lib.trimPrefix
  rw [if_neg]
  rw [e, List.map_cons]
  intro h9
  have h8 : low v[0] = 46 := by simp [Lib.hasPrefix, List.isPrefixOf] at h9; exact h9.symm
  have h7 := low_nat v[0]
  rw [h8, show (46 : UInt8).toNat = 46 from rfl] at h7
  split at h7 <;> omega
theorem pre_way {v : ByteArray} (h0 : 0 < v.size) : preB v ⟨#[47]⟩ = (v[0] == 47) := by
  have e := congrArg bs (first_mk h0)
  rw [bs_mk] at e
  rw [pre_L]
  unfold preL
  rw [show v.data.toList = v[0] :: (bs v).drop 1 from e]
  simp [Lib.hasPrefix, List.isPrefixOf]
  exact Bool.beq_comm
theorem pre_none : preB ⟨#[]⟩ ⟨#[47]⟩ = false := by rw [pre_L]; decide
set_option maxRecDepth 100000 in
theorem attr_none (nm vl dm pt : ByteArray) (ex : Int) (se ho : Bool) (st : Int) (y v : ByteArray) (w : World) (_ : v.size ≤ 1000) (q1 : (y.toList == [101, 120, 112, 105, 114, 101, 115]) = false) (q3 : (y.toList == [100, 111, 109, 97, 105, 110]) = false) (q4 : (y.toList == [112, 97, 116, 104]) = false) (q5 : (y.toList == [115, 101, 99, 117, 114, 101]) = false) (q6 : (y.toList == [104, 116, 116, 112, 111, 110, 108, 121]) = false) (q7 : (y.toList == [115, 97, 109, 101, 115, 105, 116, 101]) = false) :
    Calls Tryz.prog 27 #[.agg #[.string nm, .string vl, .string dm, .string pt, .int .i64 ex, .bool se, .bool ho, .int .i64 st], .string y, .string v] w fun e w' => e = .returned (hdA (⟨nm, vl, dm, pt, ex, se, ho, st⟩ : Hd)) ∧ Below w.heap.size w w' := by
  go_enter Tryz.func27, Tryz.ntmps27
  go_upto_region 21 with fail
  obtain ⟨v1, ev, R0⟩ := RA.new nm vl dm pt ex se ho st w
  rw [← ev]
  have R := Lib.hid R0
  clear ev R0
  refine wp_region_lit ?_
  refine loadOp16 R.out.a.rd rfl _ rfl rfl ?_
  refine storeOp16 R.out.z rfl _ _ rfl rfl rfl ?_
  go_wp2_with fail
  refine bodyPost_ret (v := hdA (⟨nm, vl, dm, pt, ex, se, ho, st⟩ : Hd)) (resA16 rfl (World.rangeAt_setCells_same _ _ _ _ R.out.z)) rfl ⟨rfl, Below.hsetCells (Nat.le_succ _) _ _ _ R.out.bel⟩
set_option maxRecDepth 100000 in
theorem attr_5 (nm vl dm pt : ByteArray) (ex : Int) (se ho : Bool) (st : Int) (y v : ByteArray) (w : World) (_ : v.size ≤ 1000) (q1 : (y.toList == [101, 120, 112, 105, 114, 101, 115]) = false) (q3 : (y.toList == [100, 111, 109, 97, 105, 110]) = false) (q4 : (y.toList == [112, 97, 116, 104]) = false) (q5 : (y.toList == [115, 101, 99, 117, 114, 101]) = true) :
    Calls Tryz.prog 27 #[.agg #[.string nm, .string vl, .string dm, .string pt, .int .i64 ex, .bool se, .bool ho, .int .i64 st], .string y, .string v] w fun e w' => e = .returned (hdA (⟨nm, vl, dm, pt, ex, true, ho, st⟩ : Hd)) ∧ Below w.heap.size w w' := by
  go_enter Tryz.func27, Tryz.ntmps27
  go_upto_region 16 with fail
  obtain ⟨v1, ev, R0⟩ := RA.new nm vl dm pt ex se ho st w
  rw [← ev]
  have R := Lib.hid R0
  clear ev R0
  have R1 := Lib.hid (R.out.set (g := ⟨nm, vl, dm, pt, ex, true, ho, st⟩) 5 (.bool true) rfl)
  obtain ⟨f0, f1, f2, f3, f4, f5, f6, f7⟩ := R.out.a.fzs
  obtain ⟨c0, c1, c2, c3, c4, c5, c6, c7⟩ := R.out.a.cells
  go_upto_region 21 with fail
  clear R
  have R := R1
  refine wp_region_lit ?_
  refine loadOp16 R.out.a.rd rfl _ rfl rfl ?_
  refine storeOp16 R.out.z rfl _ _ rfl rfl rfl ?_
  go_wp2_with fail
  refine bodyPost_ret (v := hdA (⟨nm, vl, dm, pt, ex, true, ho, st⟩ : Hd)) (resA16 rfl (World.rangeAt_setCells_same _ _ _ _ R.out.z)) rfl ⟨rfl, Below.hsetCells (Nat.le_succ _) _ _ _ R.out.bel⟩
set_option maxRecDepth 100000 in
theorem attr_6 (nm vl dm pt : ByteArray) (ex : Int) (se ho : Bool) (st : Int) (y v : ByteArray) (w : World) (_ : v.size ≤ 1000) (q1 : (y.toList == [101, 120, 112, 105, 114, 101, 115]) = false) (q3 : (y.toList == [100, 111, 109, 97, 105, 110]) = false) (q4 : (y.toList == [112, 97, 116, 104]) = false) (q5 : (y.toList == [115, 101, 99, 117, 114, 101]) = false) (q6 : (y.toList == [104, 116, 116, 112, 111, 110, 108, 121]) = true) :
    Calls Tryz.prog 27 #[.agg #[.string nm, .string vl, .string dm, .string pt, .int .i64 ex, .bool se, .bool ho, .int .i64 st], .string y, .string v] w fun e w' => e = .returned (hdA (⟨nm, vl, dm, pt, ex, se, true, st⟩ : Hd)) ∧ Below w.heap.size w w' := by
  go_enter Tryz.func27, Tryz.ntmps27
  go_upto_region 18 with fail
  obtain ⟨v1, ev, R0⟩ := RA.new nm vl dm pt ex se ho st w
  rw [← ev]
  have R := Lib.hid R0
  clear ev R0
  have R1 := Lib.hid (R.out.set (g := ⟨nm, vl, dm, pt, ex, se, true, st⟩) 6 (.bool true) rfl)
  obtain ⟨f0, f1, f2, f3, f4, f5, f6, f7⟩ := R.out.a.fzs
  obtain ⟨c0, c1, c2, c3, c4, c5, c6, c7⟩ := R.out.a.cells
  go_upto_region 21 with fail
  clear R
  have R := R1
  refine wp_region_lit ?_
  refine loadOp16 R.out.a.rd rfl _ rfl rfl ?_
  refine storeOp16 R.out.z rfl _ _ rfl rfl rfl ?_
  go_wp2_with fail
  refine bodyPost_ret (v := hdA (⟨nm, vl, dm, pt, ex, se, true, st⟩ : Hd)) (resA16 rfl (World.rangeAt_setCells_same _ _ _ _ R.out.z)) rfl ⟨rfl, Below.hsetCells (Nat.le_succ _) _ _ _ R.out.bel⟩
set_option maxRecDepth 100000 in
theorem attr_7 (nm vl dm pt : ByteArray) (ex : Int) (se ho : Bool) (st : Int) (y v : ByteArray) (w : World) (hv : v.size ≤ 1000) (q1 : (y.toList == [101, 120, 112, 105, 114, 101, 115]) = false) (q3 : (y.toList == [100, 111, 109, 97, 105, 110]) = false) (q4 : (y.toList == [112, 97, 116, 104]) = false) (q5 : (y.toList == [115, 101, 99, 117, 114, 101]) = false) (q6 : (y.toList == [104, 116, 116, 112, 111, 110, 108, 121]) = false) (q7 : (y.toList == [115, 97, 109, 101, 115, 105, 116, 101]) = true) :
    Calls Tryz.prog 27 #[.agg #[.string nm, .string vl, .string dm, .string pt, .int .i64 ex, .bool se, .bool ho, .int .i64 st], .string y, .string v] w fun e w' => e = .returned (hdA (⟨nm, vl, dm, pt, ex, se, ho, siteN v⟩ : Hd)) ∧ Below w.heap.size w w' := by
  go_enter Tryz.func27, Tryz.ntmps27
  go_wp2_with fail
  obtain ⟨v1, ev, R0⟩ := RA.new nm vl dm pt ex se ho st w
  rw [← ev]
  have R := Lib.hid R0
  clear ev R0
  refine (rsite_any v _ (by omega)).mono ?_
  rintro e v2 ⟨rfl, hu⟩
  replace R := Lib.hid (R.out.keep hu)
  have R1 := Lib.hid (R.out.set (g := ⟨nm, vl, dm, pt, ex, se, ho, siteN v⟩) 7 (.int .i64 (siteN v)) rfl)
  clear hu
  obtain ⟨f0, f1, f2, f3, f4, f5, f6, f7⟩ := R.out.a.fzs
  obtain ⟨c0, c1, c2, c3, c4, c5, c6, c7⟩ := R.out.a.cells
  go_upto_region 21 with fail
  clear R
  have R := R1
  refine wp_region_lit ?_
  refine loadOp16 R.out.a.rd rfl _ rfl rfl ?_
  refine storeOp16 R.out.z rfl _ _ rfl rfl rfl ?_
  go_wp2_with fail
  refine bodyPost_ret (v := hdA (⟨nm, vl, dm, pt, ex, se, ho, siteN v⟩ : Hd)) (resA16 rfl (World.rangeAt_setCells_same _ _ _ _ R.out.z)) rfl ⟨rfl, Below.hsetCells (Nat.le_succ _) _ _ _ R.out.bel⟩
set_option maxRecDepth 100000 in
theorem attr_4a (nm vl dm pt : ByteArray) (ex : Int) (se ho : Bool) (st : Int) (y v : ByteArray) (w : World) (_ : v.size ≤ 1000) (q1 : (y.toList == [101, 120, 112, 105, 114, 101, 115]) = false) (q3 : (y.toList == [100, 111, 109, 97, 105, 110]) = false) (q4 : (y.toList == [112, 97, 116, 104]) = true) (h0 : v = ⟨#[]⟩) :
    Calls Tryz.prog 27 #[.agg #[.string nm, .string vl, .string dm, .string pt, .int .i64 ex, .bool se, .bool ho, .int .i64 st], .string y, .string v] w fun e w' => e = .returned (hdA (⟨nm, vl, dm, ⟨#[]⟩, ex, se, ho, st⟩ : Hd)) ∧ Below w.heap.size w w' := by
  have qv : (v.toList == []) = true := str_eq0 h0
  clear h0
  go_enter Tryz.func27, Tryz.ntmps27
  go_upto_region 12 with fail
  obtain ⟨v1, ev, R0⟩ := RA.new nm vl dm pt ex se ho st w
  rw [← ev]
  have R := Lib.hid R0
  clear ev R0
  have R1 := Lib.hid (R.out.set (g := ⟨nm, vl, dm, v, ex, se, ho, st⟩) 3 (.string v) rfl)
  obtain ⟨f0, f1, f2, f3, f4, f5, f6, f7⟩ := R.out.a.fzs
  obtain ⟨c0, c1, c2, c3, c4, c5, c6, c7⟩ := R.out.a.cells
  go_upto_region 14 with fail
  clear R f0 f1 f2 f3 f4 f5 f6 f7 c0 c1 c2 c3 c4 c5 c6 c7
  generalize v1.setCell ⟨w.heap.size, 3, none⟩ (.string v) = v2 at *
  have R2 := Lib.hid (R1.out.set (g := ⟨nm, vl, dm, ⟨#[]⟩, ex, se, ho, st⟩) 3 (.string ⟨#[]⟩) rfl)
  obtain ⟨f0, f1, f2, f3, f4, f5, f6, f7⟩ := R1.out.a.fzs
  obtain ⟨c0, c1, c2, c3, c4, c5, c6, c7⟩ := R1.out.a.cells
  go_upto_region 21 with fail
  have R := R2
  refine wp_region_lit ?_
  refine loadOp16 R.out.a.rd rfl _ rfl rfl ?_
  refine storeOp16 R.out.z rfl _ _ rfl rfl rfl ?_
  go_wp2_with fail
  refine bodyPost_ret (v := hdA (⟨nm, vl, dm, ⟨#[]⟩, ex, se, ho, st⟩ : Hd)) (resA16 rfl (World.rangeAt_setCells_same _ _ _ _ R.out.z)) rfl ⟨rfl, Below.hsetCells (Nat.le_succ _) _ _ _ R.out.bel⟩
set_option maxRecDepth 100000 in
theorem attr_4b (nm vl dm pt : ByteArray) (ex : Int) (se ho : Bool) (st : Int) (y v : ByteArray) (w : World) (_ : v.size ≤ 1000) (q1 : (y.toList == [101, 120, 112, 105, 114, 101, 115]) = false) (q3 : (y.toList == [100, 111, 109, 97, 105, 110]) = false) (q4 : (y.toList == [112, 97, 116, 104]) = true) (h0 : 0 < v.size) (hc : v[0].toNat ≠ 47) :
    Calls Tryz.prog 27 #[.agg #[.string nm, .string vl, .string dm, .string pt, .int .i64 ex, .bool se, .bool ho, .int .i64 st], .string y, .string v] w fun e w' => e = .returned (hdA (⟨nm, vl, dm, ⟨#[]⟩, ex, se, ho, st⟩ : Hd)) ∧ Below w.heap.size w w' := by
  have qv : (v.toList == []) = false := str_ne0 (fun h9 => by rw [h9] at h0; exact absurd h0 (by decide))
  go_enter Tryz.func27, Tryz.ntmps27
  go_upto_region 12 with fail
  obtain ⟨v1, ev, R0⟩ := RA.new nm vl dm pt ex se ho st w
  rw [← ev]
  have R := Lib.hid R0
  clear ev R0
  have R1 := Lib.hid (R.out.set (g := ⟨nm, vl, dm, v, ex, se, ho, st⟩) 3 (.string v) rfl)
  obtain ⟨f0, f1, f2, f3, f4, f5, f6, f7⟩ := R.out.a.fzs
  obtain ⟨c0, c1, c2, c3, c4, c5, c6, c7⟩ := R.out.a.cells
  go_upto_region 14 with fail
  clear R f0 f1 f2 f3 f4 f5 f6 f7 c0 c1 c2 c3 c4 c5 c6 c7
  generalize v1.setCell ⟨w.heap.size, 3, none⟩ (.string v) = v2 at *
  have R2 := Lib.hid (R1.out.set (g := ⟨nm, vl, dm, ⟨#[]⟩, ex, se, ho, st⟩) 3 (.string ⟨#[]⟩) rfl)
  obtain ⟨f0, f1, f2, f3, f4, f5, f6, f7⟩ := R1.out.a.fzs
  obtain ⟨c0, c1, c2, c3, c4, c5, c6, c7⟩ := R1.out.a.cells
  go_upto_region 21 with fail
  have R := R2
  refine wp_region_lit ?_
  refine loadOp16 R.out.a.rd rfl _ rfl rfl ?_
  refine storeOp16 R.out.z rfl _ _ rfl rfl rfl ?_
  go_wp2_with fail
  refine bodyPost_ret (v := hdA (⟨nm, vl, dm, ⟨#[]⟩, ex, se, ho, st⟩ : Hd)) (resA16 rfl (World.rangeAt_setCells_same _ _ _ _ R.out.z)) rfl ⟨rfl, Below.hsetCells (Nat.le_succ _) _ _ _ R.out.bel⟩
set_option maxRecDepth 100000 in
theorem attr_4c (nm vl dm pt : ByteArray) (ex : Int) (se ho : Bool) (st : Int) (y v : ByteArray) (w : World) (_ : v.size ≤ 1000) (q1 : (y.toList == [101, 120, 112, 105, 114, 101, 115]) = false) (q3 : (y.toList == [100, 111, 109, 97, 105, 110]) = false) (q4 : (y.toList == [112, 97, 116, 104]) = true) (h0 : 0 < v.size) (hc : v[0].toNat = 47) :
    Calls Tryz.prog 27 #[.agg #[.string nm, .string vl, .string dm, .string pt, .int .i64 ex, .bool se, .bool ho, .int .i64 st], .string y, .string v] w fun e w' => e = .returned (hdA (⟨nm, vl, dm, v, ex, se, ho, st⟩ : Hd)) ∧ Below w.heap.size w w' := by
  have qv : (v.toList == []) = false := str_ne0 (fun h9 => by rw [h9] at h0; exact absurd h0 (by decide))
  go_enter Tryz.func27, Tryz.ntmps27
  go_upto_region 12 with fail
  obtain ⟨v1, ev, R0⟩ := RA.new nm vl dm pt ex se ho st w
  rw [← ev]
  have R := Lib.hid R0
  clear ev R0
  have R1 := Lib.hid (R.out.set (g := ⟨nm, vl, dm, v, ex, se, ho, st⟩) 3 (.string v) rfl)
  obtain ⟨f0, f1, f2, f3, f4, f5, f6, f7⟩ := R.out.a.fzs
  obtain ⟨c0, c1, c2, c3, c4, c5, c6, c7⟩ := R.out.a.cells
  go_upto_region 21 with fail
  clear R
  have R := R1
  refine wp_region_lit ?_
  refine loadOp16 R.out.a.rd rfl _ rfl rfl ?_
  refine storeOp16 R.out.z rfl _ _ rfl rfl rfl ?_
  go_wp2_with fail
  refine bodyPost_ret (v := hdA (⟨nm, vl, dm, v, ex, se, ho, st⟩ : Hd)) (resA16 rfl (World.rangeAt_setCells_same _ _ _ _ R.out.z)) rfl ⟨rfl, Below.hsetCells (Nat.le_succ _) _ _ _ R.out.bel⟩
set_option maxRecDepth 100000 in
theorem attr_1a (nm vl dm pt : ByteArray) (ex : Int) (se ho : Bool) (st : Int) (y v : ByteArray) (w : World) (hv : v.size ≤ 1000) (q1 : (y.toList == [101, 120, 112, 105, 114, 101, 115]) = true) (hc : cookO v = none) :
    Calls Tryz.prog 27 #[.agg #[.string nm, .string vl, .string dm, .string pt, .int .i64 ex, .bool se, .bool ho, .int .i64 st], .string y, .string v] w fun e w' => e = .returned (hdA (⟨nm, vl, dm, pt, ex, se, ho, st⟩ : Hd)) ∧ Below w.heap.size w w' := by
  have HV := Lib.hid (show cookieV v = .tuple #[.int .i64 0, .bool false] by rw [cook_unf, hc]; rfl)
  clear hc
  go_enter Tryz.func27, Tryz.ntmps27
  go_wp2_with fail
  obtain ⟨v1, ev, R0⟩ := RA.new nm vl dm pt ex se ho st w
  rw [← ev]
  have R := Lib.hid R0
  clear ev R0
  refine (rcookie_any v _ hv).mono ?_
  rintro e v2 ⟨rfl, hu⟩
  rw [HV.out]
  replace R := Lib.hid (R.out.keep hu)
  clear hu
  go_upto_region 21 with fail
  refine wp_region_lit ?_
  refine loadOp16 R.out.a.rd rfl _ rfl rfl ?_
  refine storeOp16 R.out.z rfl _ _ rfl rfl rfl ?_
  go_wp2_with fail
  refine bodyPost_ret (v := hdA (⟨nm, vl, dm, pt, ex, se, ho, st⟩ : Hd)) (resA16 rfl (World.rangeAt_setCells_same _ _ _ _ R.out.z)) rfl ⟨rfl, Below.hsetCells (Nat.le_succ _) _ _ _ R.out.bel⟩
set_option maxRecDepth 100000 in
theorem attr_1b (nm vl dm pt : ByteArray) (ex : Int) (se ho : Bool) (st : Int) (y v : ByteArray) (w : World) (hv : v.size ≤ 1000) (q1 : (y.toList == [101, 120, 112, 105, 114, 101, 115]) = true) (t : Int) (hc : cookO v = some t) :
    Calls Tryz.prog 27 #[.agg #[.string nm, .string vl, .string dm, .string pt, .int .i64 ex, .bool se, .bool ho, .int .i64 st], .string y, .string v] w fun e w' => e = .returned (hdA (⟨nm, vl, dm, pt, clampN t, se, ho, st⟩ : Hd)) ∧ Below w.heap.size w w' := by
  have HV := Lib.hid (show cookieV v = .tuple #[.int .i64 t, .bool true] by rw [cook_unf, hc]; rfl)
  have HB := Lib.hid (show boundN t 1 253402300799 = clampN t by unfold boundN clampN; split <;> (try split) <;> omega)
  clear hc
  go_enter Tryz.func27, Tryz.ntmps27
  go_wp2_with fail
  obtain ⟨v1, ev, R0⟩ := RA.new nm vl dm pt ex se ho st w
  rw [← ev]
  have R := Lib.hid R0
  clear ev R0
  refine (rcookie_any v _ hv).mono ?_
  rintro e v2 ⟨rfl, hu⟩
  rw [HV.out]
  replace R := Lib.hid (R.out.keep hu)
  clear hu
  go_wp2_with fail
  refine (rbound_any t 1 253402300799 _).mono ?_
  rintro e v3 ⟨rfl, rfl⟩
  rw [HB.out]
  have R1 := Lib.hid (R.out.set (g := ⟨nm, vl, dm, pt, clampN t, se, ho, st⟩) 4 (.int .i64 (clampN t)) rfl)
  obtain ⟨f0, f1, f2, f3, f4, f5, f6, f7⟩ := R.out.a.fzs
  obtain ⟨c0, c1, c2, c3, c4, c5, c6, c7⟩ := R.out.a.cells
  go_upto_region 21 with fail
  clear R
  have R := R1
  refine wp_region_lit ?_
  refine loadOp16 R.out.a.rd rfl _ rfl rfl ?_
  refine storeOp16 R.out.z rfl _ _ rfl rfl rfl ?_
  go_wp2_with fail
  refine bodyPost_ret (v := hdA (⟨nm, vl, dm, pt, clampN t, se, ho, st⟩ : Hd)) (resA16 rfl (World.rangeAt_setCells_same _ _ _ _ R.out.z)) rfl ⟨rfl, Below.hsetCells (Nat.le_succ _) _ _ _ R.out.bel⟩
set_option maxRecDepth 100000 in
theorem attr_3a (nm vl dm pt : ByteArray) (ex : Int) (se ho : Bool) (st : Int) (y v : ByteArray) (w : World) (_ : v.size ≤ 1000) (q1 : (y.toList == [101, 120, 112, 105, 114, 101, 115]) = false) (q3 : (y.toList == [100, 111, 109, 97, 105, 110]) = true) (h0 : v.size = 0) :
    Calls Tryz.prog 27 #[.agg #[.string nm, .string vl, .string dm, .string pt, .int .i64 ex, .bool se, .bool ho, .int .i64 st], .string y, .string v] w fun e w' => e = .returned (hdA (⟨nm, vl, dm, pt, ex, se, ho, st⟩ : Hd)) ∧ Below w.heap.size w w' := by
  have qv : (v.toList == []) = true := str_eq0 (bs_inj (List.eq_nil_of_length_eq_zero (by rw [← size_bs]; exact h0)))
  go_enter Tryz.func27, Tryz.ntmps27
  go_upto_region 21 with fail
  obtain ⟨v1, ev, R0⟩ := RA.new nm vl dm pt ex se ho st w
  rw [← ev]
  have R := Lib.hid R0
  clear ev R0
  refine wp_region_lit ?_
  refine loadOp16 R.out.a.rd rfl _ rfl rfl ?_
  refine storeOp16 R.out.z rfl _ _ rfl rfl rfl ?_
  go_wp2_with fail
  refine bodyPost_ret (v := hdA (⟨nm, vl, dm, pt, ex, se, ho, st⟩ : Hd)) (resA16 rfl (World.rangeAt_setCells_same _ _ _ _ R.out.z)) rfl ⟨rfl, Below.hsetCells (Nat.le_succ _) _ _ _ R.out.bel⟩
set_option maxRecDepth 100000 in
theorem attr_3b (nm vl dm pt : ByteArray) (ex : Int) (se ho : Bool) (st : Int) (y v : ByteArray) (w : World) (_ : v.size ≤ 1000) (q1 : (y.toList == [101, 120, 112, 105, 114, 101, 115]) = false) (q3 : (y.toList == [100, 111, 109, 97, 105, 110]) = true) (h0 : 0 < v.size) (hc : v[0].toNat = 46) (h1 : v.size = 1) :
    Calls Tryz.prog 27 #[.agg #[.string nm, .string vl, .string dm, .string pt, .int .i64 ex, .bool se, .bool ho, .int .i64 st], .string y, .string v] w fun e w' => e = .returned (hdA (⟨nm, vl, dm, pt, ex, se, ho, st⟩ : Hd)) ∧ Below w.heap.size w w' := by
  have qv : ((v.extract 1 v.size).toList == []) = true := str_eq0 (bs_inj (List.eq_nil_of_length_eq_zero (by rw [← size_bs, ByteArray.size_extract]; omega)))
  go_enter Tryz.func27, Tryz.ntmps27
  go_upto_region 21 with fail
  obtain ⟨v1, ev, R0⟩ := RA.new nm vl dm pt ex se ho st w
  rw [← ev]
  have R := Lib.hid R0
  clear ev R0
  refine wp_region_lit ?_
  refine loadOp16 R.out.a.rd rfl _ rfl rfl ?_
  refine storeOp16 R.out.z rfl _ _ rfl rfl rfl ?_
  go_wp2_with fail
  refine bodyPost_ret (v := hdA (⟨nm, vl, dm, pt, ex, se, ho, st⟩ : Hd)) (resA16 rfl (World.rangeAt_setCells_same _ _ _ _ R.out.z)) rfl ⟨rfl, Below.hsetCells (Nat.le_succ _) _ _ _ R.out.bel⟩
set_option maxRecDepth 100000 in
theorem attr_3c (nm vl dm pt : ByteArray) (ex : Int) (se ho : Bool) (st : Int) (y v : ByteArray) (w : World) (hv : v.size ≤ 1000) (q1 : (y.toList == [101, 120, 112, 105, 114, 101, 115]) = false) (q3 : (y.toList == [100, 111, 109, 97, 105, 110]) = true) (h0 : 0 < v.size) (hc : v[0].toNat = 46) (h1 : v.size ≠ 1) :
    Calls Tryz.prog 27 #[.agg #[.string nm, .string vl, .string dm, .string pt, .int .i64 ex, .bool se, .bool ho, .int .i64 st], .string y, .string v] w fun e w' => e = .returned (hdA (⟨nm, vl, lowS (v.extract 1 v.size), pt, ex, se, ho, st⟩ : Hd)) ∧ Below w.heap.size w w' := by
  have qv : ((v.extract 1 v.size).toList == []) = false := str_ne0 (fun h9 => by have h8 := congrArg ByteArray.size h9; rw [ByteArray.size_extract] at h8; have : (⟨#[]⟩ : ByteArray).size = 0 := rfl; omega)
  go_enter Tryz.func27, Tryz.ntmps27
  go_wp2_with fail
  obtain ⟨v1, ev, R0⟩ := RA.new nm vl dm pt ex se ho st w
  rw [← ev]
  have R := Lib.hid R0
  clear ev R0
  refine (rlower_any (v.extract 1 v.size) _ (by first | omega | (rw [ByteArray.size_extract]; omega))).mono ?_
  rintro e v2 ⟨rfl, hu⟩
  replace R := Lib.hid (R.out.keep hu)
  have R1 := Lib.hid (R.out.set (g := ⟨nm, vl, lowS (v.extract 1 v.size), pt, ex, se, ho, st⟩) 2 (.string (lowS (v.extract 1 v.size))) rfl)
  clear hu
  obtain ⟨f0, f1, f2, f3, f4, f5, f6, f7⟩ := R.out.a.fzs
  obtain ⟨c0, c1, c2, c3, c4, c5, c6, c7⟩ := R.out.a.cells
  go_upto_region 21 with fail
  clear R
  have R := R1
  refine wp_region_lit ?_
  refine loadOp16 R.out.a.rd rfl _ rfl rfl ?_
  refine storeOp16 R.out.z rfl _ _ rfl rfl rfl ?_
  go_wp2_with fail
  refine bodyPost_ret (v := hdA (⟨nm, vl, lowS (v.extract 1 v.size), pt, ex, se, ho, st⟩ : Hd)) (resA16 rfl (World.rangeAt_setCells_same _ _ _ _ R.out.z)) rfl ⟨rfl, Below.hsetCells (Nat.le_succ _) _ _ _ R.out.bel⟩
set_option maxRecDepth 100000 in
theorem attr_3d (nm vl dm pt : ByteArray) (ex : Int) (se ho : Bool) (st : Int) (y v : ByteArray) (w : World) (hv : v.size ≤ 1000) (q1 : (y.toList == [101, 120, 112, 105, 114, 101, 115]) = false) (q3 : (y.toList == [100, 111, 109, 97, 105, 110]) = true) (h0 : 0 < v.size) (hc : v[0].toNat ≠ 46) :
    Calls Tryz.prog 27 #[.agg #[.string nm, .string vl, .string dm, .string pt, .int .i64 ex, .bool se, .bool ho, .int .i64 st], .string y, .string v] w fun e w' => e = .returned (hdA (⟨nm, vl, lowS v, pt, ex, se, ho, st⟩ : Hd)) ∧ Below w.heap.size w w' := by
  have qv : (v.toList == []) = false := str_ne0 (fun h9 => by rw [h9] at h0; exact absurd h0 (by decide))
  go_enter Tryz.func27, Tryz.ntmps27
  go_wp2_with fail
  obtain ⟨v1, ev, R0⟩ := RA.new nm vl dm pt ex se ho st w
  rw [← ev]
  have R := Lib.hid R0
  clear ev R0
  refine (rlower_any v _ (by first | omega | (rw [ByteArray.size_extract]; omega))).mono ?_
  rintro e v2 ⟨rfl, hu⟩
  replace R := Lib.hid (R.out.keep hu)
  have R1 := Lib.hid (R.out.set (g := ⟨nm, vl, lowS v, pt, ex, se, ho, st⟩) 2 (.string (lowS v)) rfl)
  clear hu
  obtain ⟨f0, f1, f2, f3, f4, f5, f6, f7⟩ := R.out.a.fzs
  obtain ⟨c0, c1, c2, c3, c4, c5, c6, c7⟩ := R.out.a.cells
  go_upto_region 21 with fail
  clear R
  have R := R1
  refine wp_region_lit ?_
  refine loadOp16 R.out.a.rd rfl _ rfl rfl ?_
  refine storeOp16 R.out.z rfl _ _ rfl rfl rfl ?_
  go_wp2_with fail
  refine bodyPost_ret (v := hdA (⟨nm, vl, lowS v, pt, ex, se, ho, st⟩ : Hd)) (resA16 rfl (World.rangeAt_setCells_same _ _ _ _ R.out.z)) rfl ⟨rfl, Below.hsetCells (Nat.le_succ _) _ _ _ R.out.bel⟩
end Go.Proofs.YtngamlikhgilhaaGreatDoor
