/- Contract of header.Parse. (printed by wip/genhdre.py) -/
import Derived.Test.YtngamlikhgilhaaGreatDoorZI
import Derived.Deep.CutBlock
import Derived.Deep.DeepCutAuto
namespace Go.Proofs.YtngamlikhgilhaaGreatDoor
open Go.RowKit

theorem par_no {s : ByteArray} {now : Int} (h : ¬ (0 ≤ now ∧ now ≤ 253402300799 ∧ hasS (mk (cutL 59 (bs s)).1) = true ∧ nameS (mk (cutL 59 (bs s)).1) ≠ ⟨#[]⟩)) : parV (parH s now) = .tuple #[hdA zH, .bool false] := by
  unfold parH
  rw [if_neg h]
  rfl
theorem par_yes {s : ByteArray} {now : Int} (h : 0 ≤ now ∧ now ≤ 253402300799 ∧ hasS (mk (cutL 59 (bs s)).1) = true ∧ nameS (mk (cutL 59 (bs s)).1) ≠ ⟨#[]⟩) : parV (parH s now) = .tuple #[hdA (endH (goH now (⟨nameS (mk (cutL 59 (bs s)).1), valueS (mk (cutL 59 (bs s)).1), ⟨#[]⟩, ⟨#[]⟩, 0, false, false, 0⟩, 0) (cutL 59 (bs s)).2.1)), .bool true] := by
  unfold parH
  rw [if_pos h]
  rfl
theorem trimS_len (s : ByteArray) : (trimS s).size ≤ s.size := by
  unfold trimS; rw [size_mk, size_bs]; exact trimL_len _
theorem name_len (s : ByteArray) : (nameS s).size ≤ s.size := by
  have h1 := (cutL_len 61 (bs s)).1
  have h2 := trimS_len (mk (cutL 61 (bs s)).1)
  rw [size_mk] at h2
  unfold nameS
  rw [size_bs s]
  omega
theorem value_len (s : ByteArray) : (valueS s).size ≤ s.size := by
  have h1 := (cutL_len 61 (bs s)).2.1
  have h2 := trimS_len (mk (cutL 61 (bs s)).2.1)
  rw [size_mk] at h2
  unfold valueS
  rw [size_bs s]
  omega
/-- The result's cells, behind the time's. -/
structure ZS (w W : World) (now : Int) : Prop where
  res : W.there (w.heap.size + 1) 0 8
  tm : W.cell? ⟨w.heap.size, 0, none⟩ = some (.int .i64 now)
  bel : Below w.heap.size w W
  sz : w.heap.size + 2 ≤ W.heap.size
theorem ZS.keep {w W W' : World} {now : Int} (H : ZS w W now) (hb : Below (w.heap.size + 2) W W') : ZS w W' now :=
  ⟨hthere_keep H.res hb (by omega), (hb.cell (p := ⟨w.heap.size, 0, none⟩) (by show w.heap.size < _; omega)).trans H.tm, H.bel.trans (hb.mono (by omega)), Nat.le_trans H.sz hb.size⟩
theorem ZS.new (w : World) (now : Int) (t u : TypeId) : ZS w ((w.alloc (.cells #[.int .i64 now] t)).alloc (.cells (hdL zH).toArray u)) now := by
  have b0 := (Below.refl w.heap.size w).alloc (Nat.le_refl _) (.cells #[.int .i64 now] t)
  have s0 : (w.alloc (.cells #[.int .i64 now] t)).heap.size = w.heap.size + 1 := World.size_alloc ..
  have b1 := (Below.refl (w.heap.size + 1) (w.alloc (.cells #[.int .i64 now] t))).alloc (by rw [s0]; exact Nat.le_refl _) (.cells (hdL zH).toArray u)
  have t1 := hthere_new (w.alloc (.cells #[.int .i64 now] t)) (hdL zH) u
  rw [s0] at t1
  exact ⟨t1, (b1.cell (p := ⟨w.heap.size, 0, none⟩) (by show w.heap.size < _; omega)).trans (hcellNew w [.int .i64 now] t 0), b0.alloc (by rw [s0]; omega) _, by rw [World.size_alloc, s0]; exact Nat.le_refl _⟩
theorem built0 : Tryz.prog.built 24 [] = some (hdL zH).toArray := by kernel_rfl
theorem built2 (x y : ByteArray) : Tryz.prog.built 24 [(0, .string x), (1, .string y)] = some (hdL ⟨x, y, ⟨#[]⟩, ⟨#[]⟩, 0, false, false, 0⟩).toArray := by kernel_rfl
theorem buildOp0 {ops : Array Oper} {rest : List Oper} {op : Oper} {a : Act} {W : World} {Q : Exit → Act → World → Prop} (hgd : op.guard = none) (ps : Array (Nat × Operand)) (ho : op.op = .build 24 ps)
    (hp : (ps.map fun (i, x) => (i, a.eval x)).toList = []) (hk : wpList Tryz.prog ops Q rest (a.put op.dst (hdA zH)) W) : wpList Tryz.prog ops Q (op :: rest) a W :=
  wpList_build hgd _ _ ho (by rw [hp, built0]; rfl) (by rw [hp, built0]; exact hk)
theorem buildOp2 {ops : Array Oper} {rest : List Oper} {op : Oper} {a : Act} {W : World} {Q : Exit → Act → World → Prop} (hgd : op.guard = none) (ps : Array (Nat × Operand)) (x y : ByteArray) (ho : op.op = .build 24 ps)
    (hp : (ps.map fun (i, x) => (i, a.eval x)).toList = [(0, .string x), (1, .string y)]) (hk : wpList Tryz.prog ops Q rest (a.put op.dst (hdA ⟨x, y, ⟨#[]⟩, ⟨#[]⟩, 0, false, false, 0⟩)) W) : wpList Tryz.prog ops Q (op :: rest) a W :=
  wpList_build hgd _ _ ho (by rw [hp, built2]; rfl) (by rw [hp, built2]; exact hk)
theorem HS.new (w : World) (h : Hd) (n : Nat) (now : Int) (t u : TypeId) (hn : n < w.heap.size) (hc : w.cell? ⟨n, 0, none⟩ = some (.int .i64 now)) : HS ((w.alloc (.cells (hdL h).toArray t)).alloc (.cells #[.int .i64 0] u)) w.heap.size n h 0 now := by
  have b0 := (Below.refl w.heap.size w).alloc (Nat.le_refl _) (.cells (hdL h).toArray t)
  have s0 : (w.alloc (.cells (hdL h).toArray t)).heap.size = w.heap.size + 1 := World.size_alloc ..
  have b1 := (Below.refl (w.heap.size + 1) (w.alloc (.cells (hdL h).toArray t))).alloc (by rw [s0]; exact Nat.le_refl _) (.cells #[.int .i64 0] u)
  have e1 := hrange_new (w.alloc (.cells (hdL h).toArray t)) [.int .i64 0] u 0 _ rfl
  have e2 := hthere_new (w.alloc (.cells (hdL h).toArray t)) [.int .i64 0] u 0 (by decide)
  rw [s0] at e1 e2
  exact ⟨hrange_keep (hrange_new w (hdL h) t) b1 (by omega), hthere_keep (hthere_new w (hdL h) t) b1 (by omega), e1, e2.2,
    (b1.cell (p := ⟨n, 0, none⟩) (by show n < _; omega)).trans ((b0.cell (p := ⟨n, 0, none⟩) hn).trans hc), hn, by rw [World.size_alloc, s0]; exact Nat.le_refl _⟩
/-- How long a text in a slot is. -/
def sszH : Value → Nat
  | .string t => t.size
  | _ => 0
theorem endH_yes {h : Hd} {ag : Int} (hp : 0 < ag) : endH (h, ag) = { h with ex := ag } := if_pos hp
theorem endH_no {h : Hd} {ag : Int} (hp : ¬ 0 < ag) : endH (h, ag) = h := if_neg hp
def PAR (s : ByteArray) (now : Int) (w : World) (e : Ending) (w' : World) : Prop := e = .returned (parV (parH s now)) ∧ Below w.heap.size w w'
set_option maxRecDepth 100000 in
theorem par_low (s : ByteArray) (now : Int) (w : World) (hs : s.size ≤ 9223372036854775806) (hi : -9223372036854775808 ≤ now) (h : now < 0) :
    Calls Tryz.prog 8 #[.string s, .int .i64 now] w (PAR s now w) := by
  have hs' : s.size ≤ 9223372036854775807 := by omega
  have hl := cutL_len 59 (bs s)
  have hf : (mk (cutL 59 (bs s)).1).size ≤ 9223372036854775807 := by rw [size_mk]; have := size_bs s; omega
  have HC := Lib.hid (show cutV3 59 s = .tuple #[.string (mk (cutL 59 (bs s)).1), .string (mk (cutL 59 (bs s)).2.1), .bool (cutL 59 (bs s)).2.2] from rfl)
  have HP := Lib.hid (par_no (s := s) (now := now) (by omega))
  generalize (cutL 59 (bs s)).2.2 = hz at *
  generalize mk (cutL 59 (bs s)).1 = f at *
  generalize hr : mk (cutL 59 (bs s)).2.1 = r at *
  generalize hX : nameS f = X at *
  generalize hY : valueS f = Y at *
  generalize hZ : hasS f = Z at *
  have HN := Lib.hid hX
  have HW := Lib.hid hY
  have HH := Lib.hid hZ
  clear hl hX hY hZ
  go_enter Tryz.func8, Tryz.ntmps8
  go_wp2_with fail
  refine (acut59 s _ hs').mono ?_
  rintro e w1 ⟨rfl, hb1⟩
  rw [HC.out]
  have R1 := Lib.hid ((ZS.new w now 3 24).keep (by refine hb1.mono ?_; rw [World.size_alloc, World.size_alloc]; exact Nat.le_refl _))
  clear hb1
  go_wp2_with fail
  refine (pair_any f _ hf).mono ?_
  rintro e w2 ⟨rfl, hb2⟩
  rw [HN.out, HW.out, HH.out]
  have R2 := Lib.hid (R1.out.keep (hb2.mono R1.out.sz))
  have hbb := Lib.hid hb2
  clear R1 hb2
  have tm := R2.out.tm
  go_upto_region 4 with fail
  refine wp_region_lit ?_
  refine buildOp0 rfl _ rfl (by simp) ?_
  refine storeOpH (f := zH) R2.out.res rfl _ _ rfl rfl rfl ?_
  go_wp2_with fail
  refine bodyPost_ret (v := .tuple #[hdA zH, .bool false]) (resH rfl rfl (World.rangeAt_setCells_same _ _ _ _ R2.out.res)) rfl ⟨?_, Below.hsetCells (Nat.le_succ _) _ _ _ R2.out.bel⟩
  rw [HP.out]
set_option maxRecDepth 100000 in
theorem par_high (s : ByteArray) (now : Int) (w : World) (hs : s.size ≤ 9223372036854775806) (h0 : 0 ≤ now) (hi : now ≤ 9223372036854775807) (h : 253402300799 < now) :
    Calls Tryz.prog 8 #[.string s, .int .i64 now] w (PAR s now w) := by
  have hs' : s.size ≤ 9223372036854775807 := by omega
  have hl := cutL_len 59 (bs s)
  have hf : (mk (cutL 59 (bs s)).1).size ≤ 9223372036854775807 := by rw [size_mk]; have := size_bs s; omega
  have HC := Lib.hid (show cutV3 59 s = .tuple #[.string (mk (cutL 59 (bs s)).1), .string (mk (cutL 59 (bs s)).2.1), .bool (cutL 59 (bs s)).2.2] from rfl)
  have HP := Lib.hid (par_no (s := s) (now := now) (by omega))
  generalize (cutL 59 (bs s)).2.2 = hz at *
  generalize mk (cutL 59 (bs s)).1 = f at *
  generalize hr : mk (cutL 59 (bs s)).2.1 = r at *
  generalize hX : nameS f = X at *
  generalize hY : valueS f = Y at *
  generalize hZ : hasS f = Z at *
  have HN := Lib.hid hX
  have HW := Lib.hid hY
  have HH := Lib.hid hZ
  clear hl hX hY hZ
  go_enter Tryz.func8, Tryz.ntmps8
  go_wp2_with fail
  refine (acut59 s _ hs').mono ?_
  rintro e w1 ⟨rfl, hb1⟩
  rw [HC.out]
  have R1 := Lib.hid ((ZS.new w now 3 24).keep (by refine hb1.mono ?_; rw [World.size_alloc, World.size_alloc]; exact Nat.le_refl _))
  clear hb1
  go_wp2_with fail
  refine (pair_any f _ hf).mono ?_
  rintro e w2 ⟨rfl, hb2⟩
  rw [HN.out, HW.out, HH.out]
  have R2 := Lib.hid (R1.out.keep (hb2.mono R1.out.sz))
  have hbb := Lib.hid hb2
  clear R1 hb2
  have tm := R2.out.tm
  go_upto_region 4 with fail
  refine wp_region_lit ?_
  refine buildOp0 rfl _ rfl (by simp) ?_
  refine storeOpH (f := zH) R2.out.res rfl _ _ rfl rfl rfl ?_
  go_wp2_with fail
  refine bodyPost_ret (v := .tuple #[hdA zH, .bool false]) (resH rfl rfl (World.rangeAt_setCells_same _ _ _ _ R2.out.res)) rfl ⟨?_, Below.hsetCells (Nat.le_succ _) _ _ _ R2.out.bel⟩
  rw [HP.out]
set_option maxRecDepth 100000 in
theorem par_has (s : ByteArray) (now : Int) (w : World) (hs : s.size ≤ 9223372036854775806) (h0 : 0 ≤ now) (h : now ≤ 253402300799) (hh : hasS (mk (cutL 59 (bs s)).1) = false) :
    Calls Tryz.prog 8 #[.string s, .int .i64 now] w (PAR s now w) := by
  have hs' : s.size ≤ 9223372036854775807 := by omega
  have hl := cutL_len 59 (bs s)
  have hf : (mk (cutL 59 (bs s)).1).size ≤ 9223372036854775807 := by rw [size_mk]; have := size_bs s; omega
  have HC := Lib.hid (show cutV3 59 s = .tuple #[.string (mk (cutL 59 (bs s)).1), .string (mk (cutL 59 (bs s)).2.1), .bool (cutL 59 (bs s)).2.2] from rfl)
  have HP := Lib.hid (par_no (s := s) (now := now) (by rw [hh]; simp))
  generalize (cutL 59 (bs s)).2.2 = hz at *
  generalize mk (cutL 59 (bs s)).1 = f at *
  generalize hr : mk (cutL 59 (bs s)).2.1 = r at *
  generalize hX : nameS f = X at *
  generalize hY : valueS f = Y at *
  generalize hZ : hasS f = Z at *
  subst hh
  have HN := Lib.hid hX
  have HW := Lib.hid hY
  have HH := Lib.hid hZ
  clear hl hX hY hZ
  go_enter Tryz.func8, Tryz.ntmps8
  go_wp2_with fail
  refine (acut59 s _ hs').mono ?_
  rintro e w1 ⟨rfl, hb1⟩
  rw [HC.out]
  have R1 := Lib.hid ((ZS.new w now 3 24).keep (by refine hb1.mono ?_; rw [World.size_alloc, World.size_alloc]; exact Nat.le_refl _))
  clear hb1
  go_wp2_with fail
  refine (pair_any f _ hf).mono ?_
  rintro e w2 ⟨rfl, hb2⟩
  rw [HN.out, HW.out, HH.out]
  have R2 := Lib.hid (R1.out.keep (hb2.mono R1.out.sz))
  have hbb := Lib.hid hb2
  clear R1 hb2
  have tm := R2.out.tm
  go_upto_region 4 with fail
  refine wp_region_lit ?_
  refine buildOp0 rfl _ rfl (by simp) ?_
  refine storeOpH (f := zH) R2.out.res rfl _ _ rfl rfl rfl ?_
  go_wp2_with fail
  refine bodyPost_ret (v := .tuple #[hdA zH, .bool false]) (resH rfl rfl (World.rangeAt_setCells_same _ _ _ _ R2.out.res)) rfl ⟨?_, Below.hsetCells (Nat.le_succ _) _ _ _ R2.out.bel⟩
  rw [HP.out]
set_option maxRecDepth 100000 in
theorem par_name (s : ByteArray) (now : Int) (w : World) (hs : s.size ≤ 9223372036854775806) (h0 : 0 ≤ now) (h : now ≤ 253402300799) (hh : hasS (mk (cutL 59 (bs s)).1) = true) (hn : nameS (mk (cutL 59 (bs s)).1) = ⟨#[]⟩) :
    Calls Tryz.prog 8 #[.string s, .int .i64 now] w (PAR s now w) := by
  have hs' : s.size ≤ 9223372036854775807 := by omega
  have hl := cutL_len 59 (bs s)
  have hf : (mk (cutL 59 (bs s)).1).size ≤ 9223372036854775807 := by rw [size_mk]; have := size_bs s; omega
  have HC := Lib.hid (show cutV3 59 s = .tuple #[.string (mk (cutL 59 (bs s)).1), .string (mk (cutL 59 (bs s)).2.1), .bool (cutL 59 (bs s)).2.2] from rfl)
  have HP := Lib.hid (par_no (s := s) (now := now) (by rw [hn]; simp))
  generalize (cutL 59 (bs s)).2.2 = hz at *
  generalize mk (cutL 59 (bs s)).1 = f at *
  generalize hr : mk (cutL 59 (bs s)).2.1 = r at *
  generalize hX : nameS f = X at *
  generalize hY : valueS f = Y at *
  generalize hZ : hasS f = Z at *
  subst hh hn
  have HN := Lib.hid hX
  have HW := Lib.hid hY
  have HH := Lib.hid hZ
  clear hl hX hY hZ
  go_enter Tryz.func8, Tryz.ntmps8
  go_wp2_with fail
  refine (acut59 s _ hs').mono ?_
  rintro e w1 ⟨rfl, hb1⟩
  rw [HC.out]
  have R1 := Lib.hid ((ZS.new w now 3 24).keep (by refine hb1.mono ?_; rw [World.size_alloc, World.size_alloc]; exact Nat.le_refl _))
  clear hb1
  go_wp2_with fail
  refine (pair_any f _ hf).mono ?_
  rintro e w2 ⟨rfl, hb2⟩
  rw [HN.out, HW.out, HH.out]
  have R2 := Lib.hid (R1.out.keep (hb2.mono R1.out.sz))
  have hbb := Lib.hid hb2
  clear R1 hb2
  have tm := R2.out.tm
  go_upto_region 4 with fail
  refine wp_region_lit ?_
  refine buildOp0 rfl _ rfl (by simp) ?_
  refine storeOpH (f := zH) R2.out.res rfl _ _ rfl rfl rfl ?_
  go_wp2_with fail
  refine bodyPost_ret (v := .tuple #[hdA zH, .bool false]) (resH rfl rfl (World.rangeAt_setCells_same _ _ _ _ R2.out.res)) rfl ⟨?_, Below.hsetCells (Nat.le_succ _) _ _ _ R2.out.bel⟩
  rw [HP.out]
set_option maxRecDepth 100000 in
theorem par_good (s : ByteArray) (now : Int) (w : World) (hs : s.size ≤ 9223372036854775806) (h0 : 0 ≤ now) (h : now ≤ 253402300799) (hh : hasS (mk (cutL 59 (bs s)).1) = true) (hn : nameS (mk (cutL 59 (bs s)).1) ≠ ⟨#[]⟩) :
    Calls Tryz.prog 8 #[.string s, .int .i64 now] w (PAR s now w) := by
  have hs' : s.size ≤ 9223372036854775807 := by omega
  have hl := cutL_len 59 (bs s)
  have hf : (mk (cutL 59 (bs s)).1).size ≤ 9223372036854775807 := by rw [size_mk]; have := size_bs s; omega
  have HC := Lib.hid (show cutV3 59 s = .tuple #[.string (mk (cutL 59 (bs s)).1), .string (mk (cutL 59 (bs s)).2.1), .bool (cutL 59 (bs s)).2.2] from rfl)
  have HP := Lib.hid (par_yes (s := s) (now := now) ⟨h0, h, hh, hn⟩)
  generalize (cutL 59 (bs s)).2.2 = hz at *
  generalize mk (cutL 59 (bs s)).1 = f at *
  generalize hr : mk (cutL 59 (bs s)).2.1 = r at *
  generalize hX : nameS f = X at *
  generalize hY : valueS f = Y at *
  generalize hZ : hasS f = Z at *
  subst hh
  have q := str_ne0 hn
  clear hn
  have HN := Lib.hid hX
  have HW := Lib.hid hY
  have HH := Lib.hid hZ
  clear hl hX hY hZ
  go_enter Tryz.func8, Tryz.ntmps8
  go_wp2_with fail
  refine (acut59 s _ hs').mono ?_
  rintro e w1 ⟨rfl, hb1⟩
  rw [HC.out]
  have R1 := Lib.hid ((ZS.new w now 3 24).keep (by refine hb1.mono ?_; rw [World.size_alloc, World.size_alloc]; exact Nat.le_refl _))
  clear hb1
  go_wp2_with fail
  refine (pair_any f _ hf).mono ?_
  rintro e w2 ⟨rfl, hb2⟩
  rw [HN.out, HW.out, HH.out]
  have R2 := Lib.hid (R1.out.keep (hb2.mono R1.out.sz))
  have hbb := Lib.hid hb2
  clear R1 hb2
  have tm := R2.out.tm
  have hrl : r.size ≤ 9223372036854775806 := by rw [← hr, size_mk]; have := size_bs s; have := (cutL_len 59 (bs s)).2.1; omega
  have HRR := Lib.hid (show (cutL 59 (bs s)).2.1 = bs r by rw [← hr, bs_mk])
  rw [HRR.out] at HP
  clear hr HRR
  go_upto_region 9 with fail
  have H0 := Lib.hid (HS.new w2 ⟨X, Y, ⟨#[]⟩, ⟨#[]⟩, 0, false, false, 0⟩ w.heap.size now 24 3 (by have := R2.out.sz; omega) R2.out.tm)
  have hbs := R2.out.sz
  have Z0 := Lib.hid (R2.out.keep ((((Below.refl (w.heap.size + 2) w2).alloc hbs (.cells (hdL ⟨X, Y, ⟨#[]⟩, ⟨#[]⟩, 0, false, false, 0⟩).toArray 24))).alloc (by rw [World.size_alloc]; omega) (.cells #[.int .i64 0] 3)))
  generalize hB : w2.heap.size = B at *
  clear R2 hbb tm
  go_loopw [15] (fun v wr => ∃ (m : ByteArray) (h : Hd) (ag : Int), v = .string m ∧ m.size ≤ 9223372036854775806 ∧ Hid (goH now (h, ag) (bs m) = goH now (⟨X, Y, ⟨#[]⟩, ⟨#[]⟩, 0, false, false, 0⟩, 0) (bs r)) ∧ Hid (HS wr B w.heap.size h ag now) ∧ Hid (ZS w wr now)) (fun v _ => sszH v)
  case atStart => exact ⟨r, _, _, rfl, hrl, Lib.hid rfl, H0, Z0⟩
  case round =>
    obtain ⟨m, g, ag, rfl, hm, HG, HA, HZ⟩ := hrel
    by_cases hm0 : m = ⟨#[]⟩
    · subst hm0
      have HF := Lib.hid (show goH now (⟨X, Y, ⟨#[]⟩, ⟨#[]⟩, 0, false, false, 0⟩, 0) (bs r) = (g, ag) from HG.out.symm.trans (goH_nil _ _))
      have ga := HA.out.ga
      have hle := HZ.out.sz
      by_cases hp : 0 < ag
      · have HE := Lib.hid (endH_yes (h := g) hp)
        have HA2 := Lib.hid (HA.out.set (g := { g with ex := ag }) 4 (.int .i64 ag) rfl)
        obtain ⟨c0, c1, c2, c3, c4, c5, c6, c7⟩ := HA.out.cells
        obtain ⟨f0, f1, f2, f3, f4, f5, f6, f7⟩ := HA.out.fzs
        go_upto_region 16 with fail
        refine wp_region_lit ?_
        refine loadOpH HA2.out.rd rfl _ rfl rfl ?_
        have hres : World.there (wr.setCell ⟨B, 4, none⟩ (.int .i64 ag)) (w.heap.size + 1) 0 8 := hthere_set HZ.out.res _ _
        refine storeOpH hres rfl _ _ rfl rfl rfl ?_
        go_wp2_with fail
        refine bodyPost_ret (v := .tuple #[hdA { g with ex := ag }, .bool true]) (resH rfl rfl (World.rangeAt_setCells_same _ _ _ _ hres)) rfl ⟨?_, Below.hsetCells (Nat.le_succ _) _ _ _ (HZ.out.bel.setCell (by show w.heap.size ≤ B; omega) _)⟩
        rw [HP.out, HF.out, HE.out]
      · have HE := Lib.hid (endH_no (h := g) hp)
        go_upto_region 16 with fail
        refine wp_region_lit ?_
        refine loadOpH HA.out.rd rfl _ rfl rfl ?_
        refine storeOpH HZ.out.res rfl _ _ rfl rfl rfl ?_
        go_wp2_with fail
        refine bodyPost_ret (v := .tuple #[hdA g, .bool true]) (resH rfl rfl (World.rangeAt_setCells_same _ _ _ _ HZ.out.res)) rfl ⟨?_, Below.hsetCells (Nat.le_succ _) _ _ _ HZ.out.bel⟩
        rw [HP.out, HF.out, HE.out]
    · have q0 := str_ne0 hm0
      have hm' : m.size ≤ 9223372036854775807 := by omega
      have hl := cutL_len 59 (bs m)
      have HM := Lib.hid (size_bs m)
      have HC2 := Lib.hid (show cutV3 59 m = .tuple #[.string (mk (cutL 59 (bs m)).1), .string (mk (cutL 59 (bs m)).2.1), .bool (cutL 59 (bs m)).2.2] from rfl)
      have HG2 := Lib.hid (show goH now (stepH now (g, ag) (bs (mk (cutL 59 (bs m)).1))) (bs (mk (cutL 59 (bs m)).2.1)) = goH now (⟨X, Y, ⟨#[]⟩, ⟨#[]⟩, 0, false, false, 0⟩, 0) (bs r) by rw [bs_mk, bs_mk, ← goH_cut]; exact HG.out)
      have z1 : (mk (cutL 59 (bs m)).1).size ≤ 9223372036854775806 := by rw [size_mk]; have := size_bs m; omega
      have z2 : (mk (cutL 59 (bs m)).2.1).size < m.size := by
        have hne : bs m ≠ [] := fun e => hm0 (bs_inj (by rw [e]; rfl))
        have := hl.2.2 hne
        rw [size_mk]; have := size_bs m; omega
      clear HG hl hm0 HM
      generalize (cutL 59 (bs m)).2.2 = hz2 at *
      generalize mk (cutL 59 (bs m)).1 = one at *
      generalize mk (cutL 59 (bs m)).2.1 = nxt at *
      have z3 := name_len one
      have z4 := value_len one
      have HT := Lib.hid (show stepH now (g, ag) (bs one) = (attK (kindN (nameS one)) g (valueS one), agK (kindN (nameS one)) ag now (valueS one)) by unfold stepH; rw [mk_bs])
      rw [HT.out] at HG2
      clear HT
      go_wp2_with fail
      refine (acut59 m _ hm').mono ?_
      rintro e v1 ⟨rfl, hb1⟩
      rw [HC2.out]
      have HA1 := Lib.hid (HA.out.keep hb1)
      have HZ1 := Lib.hid (HZ.out.keep (hb1.mono HZ.out.sz))
      clear HA HZ hb1
      go_wp2_with fail
      refine (pair_any one _ (by omega)).mono ?_
      rintro e v2 ⟨rfl, hb2⟩
      have HA2 := Lib.hid (HA1.out.keep hb2)
      have HZ2 := Lib.hid (HZ1.out.keep (hb2.mono HZ1.out.sz))
      clear HA1 HZ1 hb2
      go_wp2_with fail
      refine (att_any (nameS one) (valueS one) _ B w.heap.size g ag now (by omega) (by omega) HA2.out ⟨h0, h⟩).mono ?_
      rintro e v3 ⟨rfl, hA, hb3⟩
      have HA3 := Lib.hid hA
      have HZ3 := Lib.hid (HZ2.out.keep (hb3.mono (by omega)))
      clear HA2 HZ2 hb3 hA
      go_wp2_with fail
      go_roundw
      case rel => exact ⟨nxt, _, _, rfl, by omega, HG2, HA3, HZ3⟩
      case measure => simp [sszH]; omega
theorem par_any (s : ByteArray) (now : Int) (w : World) (hs : s.size ≤ 9223372036854775806) (hi : -9223372036854775808 ≤ now) (hj : now ≤ 9223372036854775807) :
    Calls Tryz.prog 8 #[.string s, .int .i64 now] w fun e w' => e = .returned (parV (parH s now)) ∧ Below w.heap.size w w' := by
  by_cases h1 : now < 0
  · exact par_low s now w hs hi h1
  by_cases h2 : 253402300799 < now
  · exact par_high s now w hs (by omega) hj h2
  cases h3 : hasS (mk (cutL 59 (bs s)).1)
  · exact par_has s now w hs (by omega) (by omega) h3
  by_cases h4 : nameS (mk (cutL 59 (bs s)).1) = ⟨#[]⟩
  · exact par_name s now w hs (by omega) (by omega) h3 h4
  · exact par_good s now w hs (by omega) (by omega) h3 h4
end Go.Proofs.YtngamlikhgilhaaGreatDoor
/- Contract of header.Right. (printed by wip/genhdrf.py) -/
namespace Go.Proofs.YtngamlikhgilhaaGreatDoor
open Go.RowKit

def domB (d : ByteArray) : Bool := decide (d = ⟨#[]⟩ ∨ canonS d = some d)
def wayB (p : ByteArray) : Bool := decide (p = ⟨#[]⟩ ∨ pathB p = true)
def numB (ex st : Int) : Bool := decide (0 ≤ ex) && decide (ex ≤ 253402300799) && decide (0 ≤ st) && decide (st ≤ 3)
/-- Which headers may be written. -/
def rightB (h : Hd) : Bool := domB h.dm && wayB h.pt && tokB h.nm && allB octB h.vl && numB h.ex h.st
theorem dom_yes {d : ByteArray} (h : canonS d = some d) : domB d = true := decide_eq_true (Or.inr h)
theorem dom_no {d : ByteArray} (h0 : d ≠ ⟨#[]⟩) (h : canonS d ≠ some d) : domB d = false := decide_eq_false (fun h9 => h9.elim h0 h)
theorem way_yes {d : ByteArray} (h : pathB d = true) : wayB d = true := decide_eq_true (Or.inr h)
theorem way_no {d : ByteArray} (h0 : d ≠ ⟨#[]⟩) (h : pathB d = false) : wayB d = false := decide_eq_false (fun h9 => h9.elim h0 (fun h1 => by rw [h] at h1; cases h1))
theorem nul_dom : domB ⟨#[]⟩ = true := decide_eq_true (Or.inl rfl)
theorem nul_way : wayB ⟨#[]⟩ = true := decide_eq_true (Or.inl rfl)
theorem strs_ne {a b : ByteArray} (h : a ≠ b) : (a.toList == b.toList) = false := beq_eq_false_iff_ne.2 (fun e => h (bs_inj (by rw [← toLh, ← toLh, e])))
theorem str_eq0 {a : ByteArray} (h : a = ⟨#[]⟩) : (a.toList == []) = true := by rw [h, toLh]; rfl
theorem numB_last {ex st : Int} (h1 : 0 ≤ ex) (h2 : ex ≤ 253402300799) (h3 : 0 ≤ st) : decide (st ≤ 3) = numB ex st := by unfold numB; rw [decide_eq_true h1, decide_eq_true h2, decide_eq_true h3]; simp
theorem numB_no {ex st : Int} (h : ex < 0 ∨ 253402300799 < ex ∨ st < 0) : numB ex st = false := by
  unfold numB
  rcases h with h | h | h
  · rw [decide_eq_false (by omega : ¬ 0 ≤ ex)]; rfl
  · rw [decide_eq_false (by omega : ¬ ex ≤ 253402300799)]; simp
  · rw [decide_eq_false (by omega : ¬ 0 ≤ st)]; simp
/-- A header in a block of its own. -/
structure BS (w W : World) (h : Hd) : Prop where
  rd : W.rangeAt w.heap.size 0 (hdL h)
  bel : Below w.heap.size w W
  sz : w.heap.size + 1 ≤ W.heap.size
theorem BS.keep {w W W' : World} {h : Hd} (H : BS w W h) (hb : Below (w.heap.size + 1) W W') : BS w W' h := ⟨hrange_keep H.rd hb (by omega), H.bel.trans (hb.mono (by omega)), Nat.le_trans H.sz hb.size⟩
theorem BS.new (w : World) (h : Hd) (t : TypeId) : BS w (w.alloc (.cells (hdL h).toArray t)) h := ⟨hrange_new w (hdL h) t, (Below.refl w.heap.size w).alloc (Nat.le_refl _) _, by rw [World.size_alloc]; exact Nat.le_refl _⟩
theorem BS.cells {w W : World} {h : Hd} (H : BS w W h) : W.cell? ⟨w.heap.size, 0, none⟩ = some (.string h.nm) ∧ W.cell? ⟨w.heap.size, 1, none⟩ = some (.string h.vl) ∧ W.cell? ⟨w.heap.size, 2, none⟩ = some (.string h.dm) ∧ W.cell? ⟨w.heap.size, 3, none⟩ = some (.string h.pt) ∧
   W.cell? ⟨w.heap.size, 4, none⟩ = some (.int .i64 h.ex) ∧ W.cell? ⟨w.heap.size, 5, none⟩ = some (.bool h.se) ∧ W.cell? ⟨w.heap.size, 6, none⟩ = some (.bool h.ho) ∧ W.cell? ⟨w.heap.size, 7, none⟩ = some (.int .i64 h.st) :=
  ⟨H.rd 0 _ rfl, H.rd 1 _ rfl, H.rd 2 _ rfl, H.rd 3 _ rfl, H.rd 4 _ rfl, H.rd 5 _ rfl, H.rd 6 _ rfl, H.rd 7 _ rfl⟩
theorem max_alloc {w : World} (h : HasMax w) (o : Obj) : HasMax (w.alloc o) := max_keep h ((Below.refl w.heap.size w).alloc (Nat.le_refl _) o)
def RGT (h : Hd) (w : World) (e : Ending) (w' : World) : Prop := e = .returned (.bool (rightB h)) ∧ Below w.heap.size w w'
set_option maxRecDepth 100000 in
theorem right_APTO (nm vl dm pt : ByteArray) (ex : Int) (se ho : Bool) (st : Int) (w : World) (hn' : nm.size ≤ 9223372036854775807) (hv' : vl.size ≤ 9223372036854775807) (hd' : dm.size ≤ 9223372036854775806) (_hp' : pt.size ≤ 9223372036854775807) (hm : HasMax w) (hd : dm = ⟨#[]⟩) (hp : pt = ⟨#[]⟩) (ht : tokB nm = true) (hoc : allB octB vl = true) :
    Calls Tryz.prog 12 #[.agg #[.string nm, .string vl, .string dm, .string pt, .int .i64 ex, .bool se, .bool ho, .int .i64 st]] w (RGT ⟨nm, vl, dm, pt, ex, se, ho, st⟩ w) := by
    have HM := Lib.hid hm
    clear hm
    have HR := Lib.hid (show rightB ⟨nm, vl, dm, pt, ex, se, ho, st⟩ = numB ex st by unfold rightB; rw [show domB dm = true by rw [hd]; exact nul_dom, show wayB pt = true by rw [hp]; exact nul_way, ht, hoc]; rfl)
    have qd : (dm.toList == []) = true := str_eq0 hd
    clear hd
    obtain ⟨cx, cb, hcv⟩ : ∃ cx cb, canonV (canonS dm) = .tuple #[.string cx, .bool cb] := ⟨_, _, rfl⟩
    have HV := Lib.hid hcv
    clear hcv
    have qp : (pt.toList == []) = true := str_eq0 hp
    clear hp
    have HT := Lib.hid ht
    clear ht
    have HO := Lib.hid hoc
    clear hoc
    go_enter Tryz.func12, Tryz.ntmps12
    go_wp2_with fail
    refine (canon_any dm _ hd' (max_alloc HM.out _)).mono ?_
    rintro e w1 ⟨rfl, hb1⟩
    rw [HV.out]
    have B1 := Lib.hid ((BS.new w ⟨nm, vl, dm, pt, ex, se, ho, st⟩ 24).keep (hb1.mono (by rw [World.size_alloc]; exact Nat.le_refl _)))
    clear hb1
    obtain ⟨c0, c1, c2, c3, c4, c5, c6, c7⟩ := B1.out.cells
    dsimp only at c0 c1 c2 c3 c4 c5 c6 c7
    go_wp2_with (first | (go_at_call 36; refine (pright_any pt _ hp').mono ?_; rintro e w2 ⟨rfl, rfl⟩; rw [HP.out]) | (go_at_call 37; refine (token_any nm _ hn').mono ?_; rintro e w2 ⟨rfl, rfl⟩; rw [HT.out]) | (go_at_call 38; refine (octets_any vl _ hv').mono ?_; rintro e w2 ⟨rfl, rfl⟩; rw [HO.out]))
    · go_ret
      exact ⟨by rw [HR.out]; exact congrArg (fun b => Ending.returned (Value.bool b)) (numB_last ‹_› ‹_› ‹_›), B1.out.bel⟩
    all_goals
      go_ret
      exact ⟨by rw [HR.out, numB_no (by omega)]; rfl, B1.out.bel⟩
set_option maxRecDepth 100000 in
theorem right_APTo (nm vl dm pt : ByteArray) (ex : Int) (se ho : Bool) (st : Int) (w : World) (hn' : nm.size ≤ 9223372036854775807) (hv' : vl.size ≤ 9223372036854775807) (hd' : dm.size ≤ 9223372036854775806) (_hp' : pt.size ≤ 9223372036854775807) (hm : HasMax w) (hd : dm = ⟨#[]⟩) (hp : pt = ⟨#[]⟩) (ht : tokB nm = true) (hoc : allB octB vl = false) :
    Calls Tryz.prog 12 #[.agg #[.string nm, .string vl, .string dm, .string pt, .int .i64 ex, .bool se, .bool ho, .int .i64 st]] w (RGT ⟨nm, vl, dm, pt, ex, se, ho, st⟩ w) := by
    have HM := Lib.hid hm
    clear hm
    have HR := Lib.hid (show rightB ⟨nm, vl, dm, pt, ex, se, ho, st⟩ = false by unfold rightB; rw [show domB dm = true by rw [hd]; exact nul_dom, show wayB pt = true by rw [hp]; exact nul_way, ht, hoc]; simp)
    have qd : (dm.toList == []) = true := str_eq0 hd
    clear hd
    obtain ⟨cx, cb, hcv⟩ : ∃ cx cb, canonV (canonS dm) = .tuple #[.string cx, .bool cb] := ⟨_, _, rfl⟩
    have HV := Lib.hid hcv
    clear hcv
    have qp : (pt.toList == []) = true := str_eq0 hp
    clear hp
    have HT := Lib.hid ht
    clear ht
    have HO := Lib.hid hoc
    clear hoc
    go_enter Tryz.func12, Tryz.ntmps12
    go_wp2_with fail
    refine (canon_any dm _ hd' (max_alloc HM.out _)).mono ?_
    rintro e w1 ⟨rfl, hb1⟩
    rw [HV.out]
    have B1 := Lib.hid ((BS.new w ⟨nm, vl, dm, pt, ex, se, ho, st⟩ 24).keep (hb1.mono (by rw [World.size_alloc]; exact Nat.le_refl _)))
    clear hb1
    obtain ⟨c0, c1, c2, c3, c4, c5, c6, c7⟩ := B1.out.cells
    dsimp only at c0 c1 c2 c3 c4 c5 c6 c7
    go_wp2_with (first | (go_at_call 36; refine (pright_any pt _ hp').mono ?_; rintro e w2 ⟨rfl, rfl⟩; rw [HP.out]) | (go_at_call 37; refine (token_any nm _ hn').mono ?_; rintro e w2 ⟨rfl, rfl⟩; rw [HT.out]) | (go_at_call 38; refine (octets_any vl _ hv').mono ?_; rintro e w2 ⟨rfl, rfl⟩; rw [HO.out]))
    go_ret
    exact ⟨by rw [HR.out]; rfl, B1.out.bel⟩
set_option maxRecDepth 100000 in
theorem right_APt (nm vl dm pt : ByteArray) (ex : Int) (se ho : Bool) (st : Int) (w : World) (hn' : nm.size ≤ 9223372036854775807) (_hv' : vl.size ≤ 9223372036854775807) (hd' : dm.size ≤ 9223372036854775806) (_hp' : pt.size ≤ 9223372036854775807) (hm : HasMax w) (hd : dm = ⟨#[]⟩) (hp : pt = ⟨#[]⟩) (ht : tokB nm = false) :
    Calls Tryz.prog 12 #[.agg #[.string nm, .string vl, .string dm, .string pt, .int .i64 ex, .bool se, .bool ho, .int .i64 st]] w (RGT ⟨nm, vl, dm, pt, ex, se, ho, st⟩ w) := by
    have HM := Lib.hid hm
    clear hm
    have HR := Lib.hid (show rightB ⟨nm, vl, dm, pt, ex, se, ho, st⟩ = false by unfold rightB; rw [show domB dm = true by rw [hd]; exact nul_dom, show wayB pt = true by rw [hp]; exact nul_way, ht]; simp)
    have qd : (dm.toList == []) = true := str_eq0 hd
    clear hd
    obtain ⟨cx, cb, hcv⟩ : ∃ cx cb, canonV (canonS dm) = .tuple #[.string cx, .bool cb] := ⟨_, _, rfl⟩
    have HV := Lib.hid hcv
    clear hcv
    have qp : (pt.toList == []) = true := str_eq0 hp
    clear hp
    have HT := Lib.hid ht
    clear ht
    go_enter Tryz.func12, Tryz.ntmps12
    go_wp2_with fail
    refine (canon_any dm _ hd' (max_alloc HM.out _)).mono ?_
    rintro e w1 ⟨rfl, hb1⟩
    rw [HV.out]
    have B1 := Lib.hid ((BS.new w ⟨nm, vl, dm, pt, ex, se, ho, st⟩ 24).keep (hb1.mono (by rw [World.size_alloc]; exact Nat.le_refl _)))
    clear hb1
    obtain ⟨c0, c1, c2, c3, c4, c5, c6, c7⟩ := B1.out.cells
    dsimp only at c0 c1 c2 c3 c4 c5 c6 c7
    go_wp2_with (first | (go_at_call 36; refine (pright_any pt _ hp').mono ?_; rintro e w2 ⟨rfl, rfl⟩; rw [HP.out]) | (go_at_call 37; refine (token_any nm _ hn').mono ?_; rintro e w2 ⟨rfl, rfl⟩; rw [HT.out]) | (go_at_call 38; refine (octets_any vl _ hv').mono ?_; rintro e w2 ⟨rfl, rfl⟩; rw [HO.out]))
    go_ret
    exact ⟨by rw [HR.out]; rfl, B1.out.bel⟩
set_option maxRecDepth 100000 in
theorem right_AQTO (nm vl dm pt : ByteArray) (ex : Int) (se ho : Bool) (st : Int) (w : World) (hn' : nm.size ≤ 9223372036854775807) (hv' : vl.size ≤ 9223372036854775807) (hd' : dm.size ≤ 9223372036854775806) (hp' : pt.size ≤ 9223372036854775807) (hm : HasMax w) (hd : dm = ⟨#[]⟩) (hp0 : pt ≠ ⟨#[]⟩) (hp : pathB pt = true) (ht : tokB nm = true) (hoc : allB octB vl = true) :
    Calls Tryz.prog 12 #[.agg #[.string nm, .string vl, .string dm, .string pt, .int .i64 ex, .bool se, .bool ho, .int .i64 st]] w (RGT ⟨nm, vl, dm, pt, ex, se, ho, st⟩ w) := by
    have HM := Lib.hid hm
    clear hm
    have HR := Lib.hid (show rightB ⟨nm, vl, dm, pt, ex, se, ho, st⟩ = numB ex st by unfold rightB; rw [show domB dm = true by rw [hd]; exact nul_dom, show wayB pt = true by exact way_yes hp, ht, hoc]; rfl)
    have qd : (dm.toList == []) = true := str_eq0 hd
    clear hd
    obtain ⟨cx, cb, hcv⟩ : ∃ cx cb, canonV (canonS dm) = .tuple #[.string cx, .bool cb] := ⟨_, _, rfl⟩
    have HV := Lib.hid hcv
    clear hcv
    have HP := Lib.hid hp
    have qp := str_ne0 hp0
    clear hp hp0
    have HT := Lib.hid ht
    clear ht
    have HO := Lib.hid hoc
    clear hoc
    go_enter Tryz.func12, Tryz.ntmps12
    go_wp2_with fail
    refine (canon_any dm _ hd' (max_alloc HM.out _)).mono ?_
    rintro e w1 ⟨rfl, hb1⟩
    rw [HV.out]
    have B1 := Lib.hid ((BS.new w ⟨nm, vl, dm, pt, ex, se, ho, st⟩ 24).keep (hb1.mono (by rw [World.size_alloc]; exact Nat.le_refl _)))
    clear hb1
    obtain ⟨c0, c1, c2, c3, c4, c5, c6, c7⟩ := B1.out.cells
    dsimp only at c0 c1 c2 c3 c4 c5 c6 c7
    go_wp2_with (first | (go_at_call 36; refine (pright_any pt _ hp').mono ?_; rintro e w2 ⟨rfl, rfl⟩; rw [HP.out]) | (go_at_call 37; refine (token_any nm _ hn').mono ?_; rintro e w2 ⟨rfl, rfl⟩; rw [HT.out]) | (go_at_call 38; refine (octets_any vl _ hv').mono ?_; rintro e w2 ⟨rfl, rfl⟩; rw [HO.out]))
    · go_ret
      exact ⟨by rw [HR.out]; exact congrArg (fun b => Ending.returned (Value.bool b)) (numB_last ‹_› ‹_› ‹_›), B1.out.bel⟩
    all_goals
      go_ret
      exact ⟨by rw [HR.out, numB_no (by omega)]; rfl, B1.out.bel⟩
set_option maxRecDepth 100000 in
theorem right_AQTo (nm vl dm pt : ByteArray) (ex : Int) (se ho : Bool) (st : Int) (w : World) (hn' : nm.size ≤ 9223372036854775807) (hv' : vl.size ≤ 9223372036854775807) (hd' : dm.size ≤ 9223372036854775806) (hp' : pt.size ≤ 9223372036854775807) (hm : HasMax w) (hd : dm = ⟨#[]⟩) (hp0 : pt ≠ ⟨#[]⟩) (hp : pathB pt = true) (ht : tokB nm = true) (hoc : allB octB vl = false) :
    Calls Tryz.prog 12 #[.agg #[.string nm, .string vl, .string dm, .string pt, .int .i64 ex, .bool se, .bool ho, .int .i64 st]] w (RGT ⟨nm, vl, dm, pt, ex, se, ho, st⟩ w) := by
    have HM := Lib.hid hm
    clear hm
    have HR := Lib.hid (show rightB ⟨nm, vl, dm, pt, ex, se, ho, st⟩ = false by unfold rightB; rw [show domB dm = true by rw [hd]; exact nul_dom, show wayB pt = true by exact way_yes hp, ht, hoc]; simp)
    have qd : (dm.toList == []) = true := str_eq0 hd
    clear hd
    obtain ⟨cx, cb, hcv⟩ : ∃ cx cb, canonV (canonS dm) = .tuple #[.string cx, .bool cb] := ⟨_, _, rfl⟩
    have HV := Lib.hid hcv
    clear hcv
    have HP := Lib.hid hp
    have qp := str_ne0 hp0
    clear hp hp0
    have HT := Lib.hid ht
    clear ht
    have HO := Lib.hid hoc
    clear hoc
    go_enter Tryz.func12, Tryz.ntmps12
    go_wp2_with fail
    refine (canon_any dm _ hd' (max_alloc HM.out _)).mono ?_
    rintro e w1 ⟨rfl, hb1⟩
    rw [HV.out]
    have B1 := Lib.hid ((BS.new w ⟨nm, vl, dm, pt, ex, se, ho, st⟩ 24).keep (hb1.mono (by rw [World.size_alloc]; exact Nat.le_refl _)))
    clear hb1
    obtain ⟨c0, c1, c2, c3, c4, c5, c6, c7⟩ := B1.out.cells
    dsimp only at c0 c1 c2 c3 c4 c5 c6 c7
    go_wp2_with (first | (go_at_call 36; refine (pright_any pt _ hp').mono ?_; rintro e w2 ⟨rfl, rfl⟩; rw [HP.out]) | (go_at_call 37; refine (token_any nm _ hn').mono ?_; rintro e w2 ⟨rfl, rfl⟩; rw [HT.out]) | (go_at_call 38; refine (octets_any vl _ hv').mono ?_; rintro e w2 ⟨rfl, rfl⟩; rw [HO.out]))
    go_ret
    exact ⟨by rw [HR.out]; rfl, B1.out.bel⟩
set_option maxRecDepth 100000 in
theorem right_AQt (nm vl dm pt : ByteArray) (ex : Int) (se ho : Bool) (st : Int) (w : World) (hn' : nm.size ≤ 9223372036854775807) (_hv' : vl.size ≤ 9223372036854775807) (hd' : dm.size ≤ 9223372036854775806) (hp' : pt.size ≤ 9223372036854775807) (hm : HasMax w) (hd : dm = ⟨#[]⟩) (hp0 : pt ≠ ⟨#[]⟩) (hp : pathB pt = true) (ht : tokB nm = false) :
    Calls Tryz.prog 12 #[.agg #[.string nm, .string vl, .string dm, .string pt, .int .i64 ex, .bool se, .bool ho, .int .i64 st]] w (RGT ⟨nm, vl, dm, pt, ex, se, ho, st⟩ w) := by
    have HM := Lib.hid hm
    clear hm
    have HR := Lib.hid (show rightB ⟨nm, vl, dm, pt, ex, se, ho, st⟩ = false by unfold rightB; rw [show domB dm = true by rw [hd]; exact nul_dom, show wayB pt = true by exact way_yes hp, ht]; simp)
    have qd : (dm.toList == []) = true := str_eq0 hd
    clear hd
    obtain ⟨cx, cb, hcv⟩ : ∃ cx cb, canonV (canonS dm) = .tuple #[.string cx, .bool cb] := ⟨_, _, rfl⟩
    have HV := Lib.hid hcv
    clear hcv
    have HP := Lib.hid hp
    have qp := str_ne0 hp0
    clear hp hp0
    have HT := Lib.hid ht
    clear ht
    go_enter Tryz.func12, Tryz.ntmps12
    go_wp2_with fail
    refine (canon_any dm _ hd' (max_alloc HM.out _)).mono ?_
    rintro e w1 ⟨rfl, hb1⟩
    rw [HV.out]
    have B1 := Lib.hid ((BS.new w ⟨nm, vl, dm, pt, ex, se, ho, st⟩ 24).keep (hb1.mono (by rw [World.size_alloc]; exact Nat.le_refl _)))
    clear hb1
    obtain ⟨c0, c1, c2, c3, c4, c5, c6, c7⟩ := B1.out.cells
    dsimp only at c0 c1 c2 c3 c4 c5 c6 c7
    go_wp2_with (first | (go_at_call 36; refine (pright_any pt _ hp').mono ?_; rintro e w2 ⟨rfl, rfl⟩; rw [HP.out]) | (go_at_call 37; refine (token_any nm _ hn').mono ?_; rintro e w2 ⟨rfl, rfl⟩; rw [HT.out]) | (go_at_call 38; refine (octets_any vl _ hv').mono ?_; rintro e w2 ⟨rfl, rfl⟩; rw [HO.out]))
    go_ret
    exact ⟨by rw [HR.out]; rfl, B1.out.bel⟩
set_option maxRecDepth 100000 in
theorem right_AR (nm vl dm pt : ByteArray) (ex : Int) (se ho : Bool) (st : Int) (w : World) (_hn' : nm.size ≤ 9223372036854775807) (_hv' : vl.size ≤ 9223372036854775807) (hd' : dm.size ≤ 9223372036854775806) (hp' : pt.size ≤ 9223372036854775807) (hm : HasMax w) (hd : dm = ⟨#[]⟩) (hp0 : pt ≠ ⟨#[]⟩) (hp : pathB pt = false) :
    Calls Tryz.prog 12 #[.agg #[.string nm, .string vl, .string dm, .string pt, .int .i64 ex, .bool se, .bool ho, .int .i64 st]] w (RGT ⟨nm, vl, dm, pt, ex, se, ho, st⟩ w) := by
    have HM := Lib.hid hm
    clear hm
    have HR := Lib.hid (show rightB ⟨nm, vl, dm, pt, ex, se, ho, st⟩ = false by unfold rightB; rw [show domB dm = true by rw [hd]; exact nul_dom, way_no hp0 hp]; rfl)
    have qd : (dm.toList == []) = true := str_eq0 hd
    clear hd
    obtain ⟨cx, cb, hcv⟩ : ∃ cx cb, canonV (canonS dm) = .tuple #[.string cx, .bool cb] := ⟨_, _, rfl⟩
    have HV := Lib.hid hcv
    clear hcv
    have HP := Lib.hid hp
    have qp := str_ne0 hp0
    clear hp hp0
    go_enter Tryz.func12, Tryz.ntmps12
    go_wp2_with fail
    refine (canon_any dm _ hd' (max_alloc HM.out _)).mono ?_
    rintro e w1 ⟨rfl, hb1⟩
    rw [HV.out]
    have B1 := Lib.hid ((BS.new w ⟨nm, vl, dm, pt, ex, se, ho, st⟩ 24).keep (hb1.mono (by rw [World.size_alloc]; exact Nat.le_refl _)))
    clear hb1
    obtain ⟨c0, c1, c2, c3, c4, c5, c6, c7⟩ := B1.out.cells
    dsimp only at c0 c1 c2 c3 c4 c5 c6 c7
    go_wp2_with (first | (go_at_call 36; refine (pright_any pt _ hp').mono ?_; rintro e w2 ⟨rfl, rfl⟩; rw [HP.out]) | (go_at_call 37; refine (token_any nm _ hn').mono ?_; rintro e w2 ⟨rfl, rfl⟩; rw [HT.out]) | (go_at_call 38; refine (octets_any vl _ hv').mono ?_; rintro e w2 ⟨rfl, rfl⟩; rw [HO.out]))
    go_ret
    exact ⟨by rw [HR.out]; rfl, B1.out.bel⟩
set_option maxRecDepth 100000 in
theorem right_BPTO (nm vl dm pt : ByteArray) (ex : Int) (se ho : Bool) (st : Int) (w : World) (hn' : nm.size ≤ 9223372036854775807) (hv' : vl.size ≤ 9223372036854775807) (hd' : dm.size ≤ 9223372036854775806) (_hp' : pt.size ≤ 9223372036854775807) (hm : HasMax w) (hd0 : dm ≠ ⟨#[]⟩) (hd : canonS dm = some dm) (hp : pt = ⟨#[]⟩) (ht : tokB nm = true) (hoc : allB octB vl = true) :
    Calls Tryz.prog 12 #[.agg #[.string nm, .string vl, .string dm, .string pt, .int .i64 ex, .bool se, .bool ho, .int .i64 st]] w (RGT ⟨nm, vl, dm, pt, ex, se, ho, st⟩ w) := by
    have HM := Lib.hid hm
    clear hm
    have HR := Lib.hid (show rightB ⟨nm, vl, dm, pt, ex, se, ho, st⟩ = numB ex st by unfold rightB; rw [show domB dm = true by exact dom_yes hd, show wayB pt = true by rw [hp]; exact nul_way, ht, hoc]; rfl)
    have HV := Lib.hid (show canonV (canonS dm) = .tuple #[.string dm, .bool true] by rw [hd]; rfl)
    have qd := str_ne0 hd0
    clear hd hd0
    have qp : (pt.toList == []) = true := str_eq0 hp
    clear hp
    have HT := Lib.hid ht
    clear ht
    have HO := Lib.hid hoc
    clear hoc
    go_enter Tryz.func12, Tryz.ntmps12
    go_wp2_with fail
    refine (canon_any dm _ hd' (max_alloc HM.out _)).mono ?_
    rintro e w1 ⟨rfl, hb1⟩
    rw [HV.out]
    have B1 := Lib.hid ((BS.new w ⟨nm, vl, dm, pt, ex, se, ho, st⟩ 24).keep (hb1.mono (by rw [World.size_alloc]; exact Nat.le_refl _)))
    clear hb1
    obtain ⟨c0, c1, c2, c3, c4, c5, c6, c7⟩ := B1.out.cells
    dsimp only at c0 c1 c2 c3 c4 c5 c6 c7
    go_wp2_with (first | (go_at_call 36; refine (pright_any pt _ hp').mono ?_; rintro e w2 ⟨rfl, rfl⟩; rw [HP.out]) | (go_at_call 37; refine (token_any nm _ hn').mono ?_; rintro e w2 ⟨rfl, rfl⟩; rw [HT.out]) | (go_at_call 38; refine (octets_any vl _ hv').mono ?_; rintro e w2 ⟨rfl, rfl⟩; rw [HO.out]))
    · go_ret
      exact ⟨by rw [HR.out]; exact congrArg (fun b => Ending.returned (Value.bool b)) (numB_last ‹_› ‹_› ‹_›), B1.out.bel⟩
    all_goals
      go_ret
      exact ⟨by rw [HR.out, numB_no (by omega)]; rfl, B1.out.bel⟩
set_option maxRecDepth 100000 in
theorem right_BPTo (nm vl dm pt : ByteArray) (ex : Int) (se ho : Bool) (st : Int) (w : World) (hn' : nm.size ≤ 9223372036854775807) (hv' : vl.size ≤ 9223372036854775807) (hd' : dm.size ≤ 9223372036854775806) (_hp' : pt.size ≤ 9223372036854775807) (hm : HasMax w) (hd0 : dm ≠ ⟨#[]⟩) (hd : canonS dm = some dm) (hp : pt = ⟨#[]⟩) (ht : tokB nm = true) (hoc : allB octB vl = false) :
    Calls Tryz.prog 12 #[.agg #[.string nm, .string vl, .string dm, .string pt, .int .i64 ex, .bool se, .bool ho, .int .i64 st]] w (RGT ⟨nm, vl, dm, pt, ex, se, ho, st⟩ w) := by
    have HM := Lib.hid hm
    clear hm
    have HR := Lib.hid (show rightB ⟨nm, vl, dm, pt, ex, se, ho, st⟩ = false by unfold rightB; rw [show domB dm = true by exact dom_yes hd, show wayB pt = true by rw [hp]; exact nul_way, ht, hoc]; simp)
    have HV := Lib.hid (show canonV (canonS dm) = .tuple #[.string dm, .bool true] by rw [hd]; rfl)
    have qd := str_ne0 hd0
    clear hd hd0
    have qp : (pt.toList == []) = true := str_eq0 hp
    clear hp
    have HT := Lib.hid ht
    clear ht
    have HO := Lib.hid hoc
    clear hoc
    go_enter Tryz.func12, Tryz.ntmps12
    go_wp2_with fail
    refine (canon_any dm _ hd' (max_alloc HM.out _)).mono ?_
    rintro e w1 ⟨rfl, hb1⟩
    rw [HV.out]
    have B1 := Lib.hid ((BS.new w ⟨nm, vl, dm, pt, ex, se, ho, st⟩ 24).keep (hb1.mono (by rw [World.size_alloc]; exact Nat.le_refl _)))
    clear hb1
    obtain ⟨c0, c1, c2, c3, c4, c5, c6, c7⟩ := B1.out.cells
    dsimp only at c0 c1 c2 c3 c4 c5 c6 c7
    go_wp2_with (first | (go_at_call 36; refine (pright_any pt _ hp').mono ?_; rintro e w2 ⟨rfl, rfl⟩; rw [HP.out]) | (go_at_call 37; refine (token_any nm _ hn').mono ?_; rintro e w2 ⟨rfl, rfl⟩; rw [HT.out]) | (go_at_call 38; refine (octets_any vl _ hv').mono ?_; rintro e w2 ⟨rfl, rfl⟩; rw [HO.out]))
    go_ret
    exact ⟨by rw [HR.out]; rfl, B1.out.bel⟩
set_option maxRecDepth 100000 in
theorem right_BPt (nm vl dm pt : ByteArray) (ex : Int) (se ho : Bool) (st : Int) (w : World) (hn' : nm.size ≤ 9223372036854775807) (_hv' : vl.size ≤ 9223372036854775807) (hd' : dm.size ≤ 9223372036854775806) (_hp' : pt.size ≤ 9223372036854775807) (hm : HasMax w) (hd0 : dm ≠ ⟨#[]⟩) (hd : canonS dm = some dm) (hp : pt = ⟨#[]⟩) (ht : tokB nm = false) :
    Calls Tryz.prog 12 #[.agg #[.string nm, .string vl, .string dm, .string pt, .int .i64 ex, .bool se, .bool ho, .int .i64 st]] w (RGT ⟨nm, vl, dm, pt, ex, se, ho, st⟩ w) := by
    have HM := Lib.hid hm
    clear hm
    have HR := Lib.hid (show rightB ⟨nm, vl, dm, pt, ex, se, ho, st⟩ = false by unfold rightB; rw [show domB dm = true by exact dom_yes hd, show wayB pt = true by rw [hp]; exact nul_way, ht]; simp)
    have HV := Lib.hid (show canonV (canonS dm) = .tuple #[.string dm, .bool true] by rw [hd]; rfl)
    have qd := str_ne0 hd0
    clear hd hd0
    have qp : (pt.toList == []) = true := str_eq0 hp
    clear hp
    have HT := Lib.hid ht
    clear ht
    go_enter Tryz.func12, Tryz.ntmps12
    go_wp2_with fail
    refine (canon_any dm _ hd' (max_alloc HM.out _)).mono ?_
    rintro e w1 ⟨rfl, hb1⟩
    rw [HV.out]
    have B1 := Lib.hid ((BS.new w ⟨nm, vl, dm, pt, ex, se, ho, st⟩ 24).keep (hb1.mono (by rw [World.size_alloc]; exact Nat.le_refl _)))
    clear hb1
    obtain ⟨c0, c1, c2, c3, c4, c5, c6, c7⟩ := B1.out.cells
    dsimp only at c0 c1 c2 c3 c4 c5 c6 c7
    go_wp2_with (first | (go_at_call 36; refine (pright_any pt _ hp').mono ?_; rintro e w2 ⟨rfl, rfl⟩; rw [HP.out]) | (go_at_call 37; refine (token_any nm _ hn').mono ?_; rintro e w2 ⟨rfl, rfl⟩; rw [HT.out]) | (go_at_call 38; refine (octets_any vl _ hv').mono ?_; rintro e w2 ⟨rfl, rfl⟩; rw [HO.out]))
    go_ret
    exact ⟨by rw [HR.out]; rfl, B1.out.bel⟩
set_option maxRecDepth 100000 in
theorem right_BQTO (nm vl dm pt : ByteArray) (ex : Int) (se ho : Bool) (st : Int) (w : World) (hn' : nm.size ≤ 9223372036854775807) (hv' : vl.size ≤ 9223372036854775807) (hd' : dm.size ≤ 9223372036854775806) (hp' : pt.size ≤ 9223372036854775807) (hm : HasMax w) (hd0 : dm ≠ ⟨#[]⟩) (hd : canonS dm = some dm) (hp0 : pt ≠ ⟨#[]⟩) (hp : pathB pt = true) (ht : tokB nm = true) (hoc : allB octB vl = true) :
    Calls Tryz.prog 12 #[.agg #[.string nm, .string vl, .string dm, .string pt, .int .i64 ex, .bool se, .bool ho, .int .i64 st]] w (RGT ⟨nm, vl, dm, pt, ex, se, ho, st⟩ w) := by
    have HM := Lib.hid hm
    clear hm
    have HR := Lib.hid (show rightB ⟨nm, vl, dm, pt, ex, se, ho, st⟩ = numB ex st by unfold rightB; rw [show domB dm = true by exact dom_yes hd, show wayB pt = true by exact way_yes hp, ht, hoc]; rfl)
    have HV := Lib.hid (show canonV (canonS dm) = .tuple #[.string dm, .bool true] by rw [hd]; rfl)
    have qd := str_ne0 hd0
    clear hd hd0
    have HP := Lib.hid hp
    have qp := str_ne0 hp0
    clear hp hp0
    have HT := Lib.hid ht
    clear ht
    have HO := Lib.hid hoc
    clear hoc
    go_enter Tryz.func12, Tryz.ntmps12
    go_wp2_with fail
    refine (canon_any dm _ hd' (max_alloc HM.out _)).mono ?_
    rintro e w1 ⟨rfl, hb1⟩
    rw [HV.out]
    have B1 := Lib.hid ((BS.new w ⟨nm, vl, dm, pt, ex, se, ho, st⟩ 24).keep (hb1.mono (by rw [World.size_alloc]; exact Nat.le_refl _)))
    clear hb1
    obtain ⟨c0, c1, c2, c3, c4, c5, c6, c7⟩ := B1.out.cells
    dsimp only at c0 c1 c2 c3 c4 c5 c6 c7
    go_wp2_with (first | (go_at_call 36; refine (pright_any pt _ hp').mono ?_; rintro e w2 ⟨rfl, rfl⟩; rw [HP.out]) | (go_at_call 37; refine (token_any nm _ hn').mono ?_; rintro e w2 ⟨rfl, rfl⟩; rw [HT.out]) | (go_at_call 38; refine (octets_any vl _ hv').mono ?_; rintro e w2 ⟨rfl, rfl⟩; rw [HO.out]))
    · go_ret
      exact ⟨by rw [HR.out]; exact congrArg (fun b => Ending.returned (Value.bool b)) (numB_last ‹_› ‹_› ‹_›), B1.out.bel⟩
    all_goals
      go_ret
      exact ⟨by rw [HR.out, numB_no (by omega)]; rfl, B1.out.bel⟩
set_option maxRecDepth 100000 in
theorem right_BQTo (nm vl dm pt : ByteArray) (ex : Int) (se ho : Bool) (st : Int) (w : World) (hn' : nm.size ≤ 9223372036854775807) (hv' : vl.size ≤ 9223372036854775807) (hd' : dm.size ≤ 9223372036854775806) (hp' : pt.size ≤ 9223372036854775807) (hm : HasMax w) (hd0 : dm ≠ ⟨#[]⟩) (hd : canonS dm = some dm) (hp0 : pt ≠ ⟨#[]⟩) (hp : pathB pt = true) (ht : tokB nm = true) (hoc : allB octB vl = false) :
    Calls Tryz.prog 12 #[.agg #[.string nm, .string vl, .string dm, .string pt, .int .i64 ex, .bool se, .bool ho, .int .i64 st]] w (RGT ⟨nm, vl, dm, pt, ex, se, ho, st⟩ w) := by
    have HM := Lib.hid hm
    clear hm
    have HR := Lib.hid (show rightB ⟨nm, vl, dm, pt, ex, se, ho, st⟩ = false by unfold rightB; rw [show domB dm = true by exact dom_yes hd, show wayB pt = true by exact way_yes hp, ht, hoc]; simp)
    have HV := Lib.hid (show canonV (canonS dm) = .tuple #[.string dm, .bool true] by rw [hd]; rfl)
    have qd := str_ne0 hd0
    clear hd hd0
    have HP := Lib.hid hp
    have qp := str_ne0 hp0
    clear hp hp0
    have HT := Lib.hid ht
    clear ht
    have HO := Lib.hid hoc
    clear hoc
    go_enter Tryz.func12, Tryz.ntmps12
    go_wp2_with fail
    refine (canon_any dm _ hd' (max_alloc HM.out _)).mono ?_
    rintro e w1 ⟨rfl, hb1⟩
    rw [HV.out]
    have B1 := Lib.hid ((BS.new w ⟨nm, vl, dm, pt, ex, se, ho, st⟩ 24).keep (hb1.mono (by rw [World.size_alloc]; exact Nat.le_refl _)))
    clear hb1
    obtain ⟨c0, c1, c2, c3, c4, c5, c6, c7⟩ := B1.out.cells
    dsimp only at c0 c1 c2 c3 c4 c5 c6 c7
    go_wp2_with (first | (go_at_call 36; refine (pright_any pt _ hp').mono ?_; rintro e w2 ⟨rfl, rfl⟩; rw [HP.out]) | (go_at_call 37; refine (token_any nm _ hn').mono ?_; rintro e w2 ⟨rfl, rfl⟩; rw [HT.out]) | (go_at_call 38; refine (octets_any vl _ hv').mono ?_; rintro e w2 ⟨rfl, rfl⟩; rw [HO.out]))
    go_ret
    exact ⟨by rw [HR.out]; rfl, B1.out.bel⟩
set_option maxRecDepth 100000 in
theorem right_BQt (nm vl dm pt : ByteArray) (ex : Int) (se ho : Bool) (st : Int) (w : World) (hn' : nm.size ≤ 9223372036854775807) (_hv' : vl.size ≤ 9223372036854775807) (hd' : dm.size ≤ 9223372036854775806) (hp' : pt.size ≤ 9223372036854775807) (hm : HasMax w) (hd0 : dm ≠ ⟨#[]⟩) (hd : canonS dm = some dm) (hp0 : pt ≠ ⟨#[]⟩) (hp : pathB pt = true) (ht : tokB nm = false) :
    Calls Tryz.prog 12 #[.agg #[.string nm, .string vl, .string dm, .string pt, .int .i64 ex, .bool se, .bool ho, .int .i64 st]] w (RGT ⟨nm, vl, dm, pt, ex, se, ho, st⟩ w) := by
    have HM := Lib.hid hm
    clear hm
    have HR := Lib.hid (show rightB ⟨nm, vl, dm, pt, ex, se, ho, st⟩ = false by unfold rightB; rw [show domB dm = true by exact dom_yes hd, show wayB pt = true by exact way_yes hp, ht]; simp)
    have HV := Lib.hid (show canonV (canonS dm) = .tuple #[.string dm, .bool true] by rw [hd]; rfl)
    have qd := str_ne0 hd0
    clear hd hd0
    have HP := Lib.hid hp
    have qp := str_ne0 hp0
    clear hp hp0
    have HT := Lib.hid ht
    clear ht
    go_enter Tryz.func12, Tryz.ntmps12
    go_wp2_with fail
    refine (canon_any dm _ hd' (max_alloc HM.out _)).mono ?_
    rintro e w1 ⟨rfl, hb1⟩
    rw [HV.out]
    have B1 := Lib.hid ((BS.new w ⟨nm, vl, dm, pt, ex, se, ho, st⟩ 24).keep (hb1.mono (by rw [World.size_alloc]; exact Nat.le_refl _)))
    clear hb1
    obtain ⟨c0, c1, c2, c3, c4, c5, c6, c7⟩ := B1.out.cells
    dsimp only at c0 c1 c2 c3 c4 c5 c6 c7
    go_wp2_with (first | (go_at_call 36; refine (pright_any pt _ hp').mono ?_; rintro e w2 ⟨rfl, rfl⟩; rw [HP.out]) | (go_at_call 37; refine (token_any nm _ hn').mono ?_; rintro e w2 ⟨rfl, rfl⟩; rw [HT.out]) | (go_at_call 38; refine (octets_any vl _ hv').mono ?_; rintro e w2 ⟨rfl, rfl⟩; rw [HO.out]))
    go_ret
    exact ⟨by rw [HR.out]; rfl, B1.out.bel⟩
set_option maxRecDepth 100000 in
theorem right_BR (nm vl dm pt : ByteArray) (ex : Int) (se ho : Bool) (st : Int) (w : World) (_hn' : nm.size ≤ 9223372036854775807) (_hv' : vl.size ≤ 9223372036854775807) (hd' : dm.size ≤ 9223372036854775806) (hp' : pt.size ≤ 9223372036854775807) (hm : HasMax w) (hd0 : dm ≠ ⟨#[]⟩) (hd : canonS dm = some dm) (hp0 : pt ≠ ⟨#[]⟩) (hp : pathB pt = false) :
    Calls Tryz.prog 12 #[.agg #[.string nm, .string vl, .string dm, .string pt, .int .i64 ex, .bool se, .bool ho, .int .i64 st]] w (RGT ⟨nm, vl, dm, pt, ex, se, ho, st⟩ w) := by
    have HM := Lib.hid hm
    clear hm
    have HR := Lib.hid (show rightB ⟨nm, vl, dm, pt, ex, se, ho, st⟩ = false by unfold rightB; rw [show domB dm = true by exact dom_yes hd, way_no hp0 hp]; rfl)
    have HV := Lib.hid (show canonV (canonS dm) = .tuple #[.string dm, .bool true] by rw [hd]; rfl)
    have qd := str_ne0 hd0
    clear hd hd0
    have HP := Lib.hid hp
    have qp := str_ne0 hp0
    clear hp hp0
    go_enter Tryz.func12, Tryz.ntmps12
    go_wp2_with fail
    refine (canon_any dm _ hd' (max_alloc HM.out _)).mono ?_
    rintro e w1 ⟨rfl, hb1⟩
    rw [HV.out]
    have B1 := Lib.hid ((BS.new w ⟨nm, vl, dm, pt, ex, se, ho, st⟩ 24).keep (hb1.mono (by rw [World.size_alloc]; exact Nat.le_refl _)))
    clear hb1
    obtain ⟨c0, c1, c2, c3, c4, c5, c6, c7⟩ := B1.out.cells
    dsimp only at c0 c1 c2 c3 c4 c5 c6 c7
    go_wp2_with (first | (go_at_call 36; refine (pright_any pt _ hp').mono ?_; rintro e w2 ⟨rfl, rfl⟩; rw [HP.out]) | (go_at_call 37; refine (token_any nm _ hn').mono ?_; rintro e w2 ⟨rfl, rfl⟩; rw [HT.out]) | (go_at_call 38; refine (octets_any vl _ hv').mono ?_; rintro e w2 ⟨rfl, rfl⟩; rw [HO.out]))
    go_ret
    exact ⟨by rw [HR.out]; rfl, B1.out.bel⟩
set_option maxRecDepth 100000 in
theorem right_C (nm vl dm pt : ByteArray) (ex : Int) (se ho : Bool) (st : Int) (w : World) (_hn' : nm.size ≤ 9223372036854775807) (_hv' : vl.size ≤ 9223372036854775807) (hd' : dm.size ≤ 9223372036854775806) (_hp' : pt.size ≤ 9223372036854775807) (hm : HasMax w) (hd0 : dm ≠ ⟨#[]⟩) (hd : canonS dm = none) :
    Calls Tryz.prog 12 #[.agg #[.string nm, .string vl, .string dm, .string pt, .int .i64 ex, .bool se, .bool ho, .int .i64 st]] w (RGT ⟨nm, vl, dm, pt, ex, se, ho, st⟩ w) := by
    have HM := Lib.hid hm
    clear hm
    have HR := Lib.hid (show rightB ⟨nm, vl, dm, pt, ex, se, ho, st⟩ = false by unfold rightB; rw [dom_no hd0 (by rw [hd]; intro h; cases h)]; rfl)
    have HV := Lib.hid (show canonV (canonS dm) = .tuple #[.string ByteArray.empty, .bool false] by rw [hd]; rfl)
    have qd := str_ne0 hd0
    clear hd hd0
    go_enter Tryz.func12, Tryz.ntmps12
    go_wp2_with fail
    refine (canon_any dm _ hd' (max_alloc HM.out _)).mono ?_
    rintro e w1 ⟨rfl, hb1⟩
    rw [HV.out]
    have B1 := Lib.hid ((BS.new w ⟨nm, vl, dm, pt, ex, se, ho, st⟩ 24).keep (hb1.mono (by rw [World.size_alloc]; exact Nat.le_refl _)))
    clear hb1
    obtain ⟨c0, c1, c2, c3, c4, c5, c6, c7⟩ := B1.out.cells
    dsimp only at c0 c1 c2 c3 c4 c5 c6 c7
    go_wp2_with (first | (go_at_call 36; refine (pright_any pt _ hp').mono ?_; rintro e w2 ⟨rfl, rfl⟩; rw [HP.out]) | (go_at_call 37; refine (token_any nm _ hn').mono ?_; rintro e w2 ⟨rfl, rfl⟩; rw [HT.out]) | (go_at_call 38; refine (octets_any vl _ hv').mono ?_; rintro e w2 ⟨rfl, rfl⟩; rw [HO.out]))
    go_ret
    exact ⟨by rw [HR.out]; rfl, B1.out.bel⟩
set_option maxRecDepth 100000 in
theorem right_D (nm vl dm pt : ByteArray) (ex : Int) (se ho : Bool) (st : Int) (w : World) (_hn' : nm.size ≤ 9223372036854775807) (_hv' : vl.size ≤ 9223372036854775807) (hd' : dm.size ≤ 9223372036854775806) (_hp' : pt.size ≤ 9223372036854775807) (hm : HasMax w) (x : ByteArray) (hd0 : dm ≠ ⟨#[]⟩) (hd : canonS dm = some x) (hx : x ≠ dm) :
    Calls Tryz.prog 12 #[.agg #[.string nm, .string vl, .string dm, .string pt, .int .i64 ex, .bool se, .bool ho, .int .i64 st]] w (RGT ⟨nm, vl, dm, pt, ex, se, ho, st⟩ w) := by
    have HM := Lib.hid hm
    clear hm
    have HR := Lib.hid (show rightB ⟨nm, vl, dm, pt, ex, se, ho, st⟩ = false by unfold rightB; rw [dom_no hd0 (by rw [hd]; intro h; cases h; exact hx rfl)]; rfl)
    have HV := Lib.hid (show canonV (canonS dm) = .tuple #[.string x, .bool true] by rw [hd]; rfl)
    have qd := str_ne0 hd0
    have qx := strs_ne hx
    clear hd hd0 hx
    go_enter Tryz.func12, Tryz.ntmps12
    go_wp2_with fail
    refine (canon_any dm _ hd' (max_alloc HM.out _)).mono ?_
    rintro e w1 ⟨rfl, hb1⟩
    rw [HV.out]
    have B1 := Lib.hid ((BS.new w ⟨nm, vl, dm, pt, ex, se, ho, st⟩ 24).keep (hb1.mono (by rw [World.size_alloc]; exact Nat.le_refl _)))
    clear hb1
    obtain ⟨c0, c1, c2, c3, c4, c5, c6, c7⟩ := B1.out.cells
    dsimp only at c0 c1 c2 c3 c4 c5 c6 c7
    go_wp2_with (first | (go_at_call 36; refine (pright_any pt _ hp').mono ?_; rintro e w2 ⟨rfl, rfl⟩; rw [HP.out]) | (go_at_call 37; refine (token_any nm _ hn').mono ?_; rintro e w2 ⟨rfl, rfl⟩; rw [HT.out]) | (go_at_call 38; refine (octets_any vl _ hv').mono ?_; rintro e w2 ⟨rfl, rfl⟩; rw [HO.out]))
    go_ret
    exact ⟨by rw [HR.out]; rfl, B1.out.bel⟩
theorem right_all (h : Hd) (w : World) (hn : h.nm.size ≤ 9223372036854775807) (hv : h.vl.size ≤ 9223372036854775807) (hd : h.dm.size ≤ 9223372036854775806) (hp : h.pt.size ≤ 9223372036854775807) (hm : HasMax w) :
    Calls Tryz.prog 12 #[hdA h] w fun e w' => e = .returned (.bool (rightB h)) ∧ Below w.heap.size w w' := by
  obtain ⟨nm, vl, dm, pt, ex, se, ho, st⟩ := h
  dsimp only at hn hv hd hp
  have hP : pt = ⟨#[]⟩ ∨ (pt ≠ ⟨#[]⟩ ∧ pathB pt = true) ∨ (pt ≠ ⟨#[]⟩ ∧ pathB pt = false) := by
    by_cases h : pt = ⟨#[]⟩
    · exact Or.inl h
    · cases h2 : pathB pt
      · exact Or.inr (Or.inr ⟨h, rfl⟩)
      · exact Or.inr (Or.inl ⟨h, rfl⟩)
  have hD : dm = ⟨#[]⟩ ∨ (dm ≠ ⟨#[]⟩ ∧ canonS dm = some dm) ∨ (dm ≠ ⟨#[]⟩ ∧ canonS dm = none) ∨ (dm ≠ ⟨#[]⟩ ∧ ∃ x, canonS dm = some x ∧ x ≠ dm) := by
    by_cases h : dm = ⟨#[]⟩
    · exact Or.inl h
    · cases h2 : canonS dm with
      | none => exact Or.inr (Or.inr (Or.inl ⟨h, rfl⟩))
      | some x =>
        by_cases h3 : x = dm
        · subst h3; exact Or.inr (Or.inl ⟨h, rfl⟩)
        · exact Or.inr (Or.inr (Or.inr ⟨h, x, rfl, h3⟩))
  rcases hD with a | ⟨a0, a⟩ | ⟨a0, a⟩ | ⟨a0, x, a, a1⟩
  · rcases hP with b | ⟨b0, b⟩ | ⟨b0, b⟩
    · cases c : tokB nm
      · exact right_APt nm vl dm pt ex se ho st w hn hv hd hp hm a b c
      · cases d : allB octB vl
        · exact right_APTo nm vl dm pt ex se ho st w hn hv hd hp hm a b c d
        · exact right_APTO nm vl dm pt ex se ho st w hn hv hd hp hm a b c d
    · cases c : tokB nm
      · exact right_AQt nm vl dm pt ex se ho st w hn hv hd hp hm a b0 b c
      · cases d : allB octB vl
        · exact right_AQTo nm vl dm pt ex se ho st w hn hv hd hp hm a b0 b c d
        · exact right_AQTO nm vl dm pt ex se ho st w hn hv hd hp hm a b0 b c d
    · exact right_AR nm vl dm pt ex se ho st w hn hv hd hp hm a b0 b
  · rcases hP with b | ⟨b0, b⟩ | ⟨b0, b⟩
    · cases c : tokB nm
      · exact right_BPt nm vl dm pt ex se ho st w hn hv hd hp hm a0 a b c
      · cases d : allB octB vl
        · exact right_BPTo nm vl dm pt ex se ho st w hn hv hd hp hm a0 a b c d
        · exact right_BPTO nm vl dm pt ex se ho st w hn hv hd hp hm a0 a b c d
    · cases c : tokB nm
      · exact right_BQt nm vl dm pt ex se ho st w hn hv hd hp hm a0 a b0 b c
      · cases d : allB octB vl
        · exact right_BQTo nm vl dm pt ex se ho st w hn hv hd hp hm a0 a b0 b c d
        · exact right_BQTO nm vl dm pt ex se ho st w hn hv hd hp hm a0 a b0 b c d
    · exact right_BR nm vl dm pt ex se ho st w hn hv hd hp hm a0 a b0 b
  · exact right_C nm vl dm pt ex se ho st w hn hv hd hp hm a0 a
  · exact right_D nm vl dm pt ex se ho st w hn hv hd hp hm x a0 a a1
end Go.Proofs.YtngamlikhgilhaaGreatDoor
