/- Contract of header.Parse. (printed by wip/genhdre.py) -/
import Derived.Test.YtngamlikhgilhaaDoorHdrD
import Derived.Deep.CutBlock
import Derived.Deep.DeepCutAuto
namespace Go.Proofs.YtngamlikhgilhaaDoor
open Go.RowKit

theorem par_no {s : ByteArray} {now : Int} (h : ¬ (0 ≤ now ∧ now ≤ 253402300799 ∧ hasS (mk (cutL 59 (bs s)).1) = true ∧ nameS (mk (cutL 59 (bs s)).1) ≠ ⟨#[]⟩)) : parV (parH s now) = .tuple #[hdA zH, .bool false] := by
  unfold parH
  rw [if_neg h]
  rfl
theorem par_yes {s : ByteArray} {now : Int} (h : 0 ≤ now ∧ now ≤ 253402300799 ∧ hasS (mk (cutL 59 (bs s)).1) = true ∧ nameS (mk (cutL 59 (bs s)).1) ≠ ⟨#[]⟩) : parV (parH s now) = .tuple #[hdA (endH (goH now (⟨nameS (mk (cutL 59 (bs s)).1), valueS (mk (cutL 59 (bs s)).1), ⟨#[]⟩, ⟨#[]⟩, 0, false, false, 0⟩, 0) (cutL 59 (bs s)).2.1)), .bool true] := by
  unfold parH
  rw [if_pos h]
  rfl
theorem trimS_len (s : ByteArray) : (trimS s).size ≤ s.size := by
  unfold trimS; rw [size_mk, size_bs]; exact trimL_len _
theorem name_len (s : ByteArray) : (nameS s).size ≤ s.size := by
  have h1 := (cutL_len 61 (bs s)).1
  have h2 := trimS_len (mk (cutL 61 (bs s)).1)
  rw [size_mk] at h2
  unfold nameS
  rw [size_bs s]
  omega
theorem value_len (s : ByteArray) : (valueS s).size ≤ s.size := by
  have h1 := (cutL_len 61 (bs s)).2.1
  have h2 := trimS_len (mk (cutL 61 (bs s)).2.1)
  rw [size_mk] at h2
  unfold valueS
  rw [size_bs s]
  omega
/-- The result's cells, behind the time's. -/
structure ZS (w W : World) (now : Int) : Prop where
  res : W.there (w.heap.size + 1) 0 8
  tm : W.cell? ⟨w.heap.size, 0, none⟩ = some (.int .i64 now)
  bel : Below w.heap.size w W
  sz : w.heap.size + 2 ≤ W.heap.size
theorem ZS.keep {w W W' : World} {now : Int} (H : ZS w W now) (hb : Below (w.heap.size + 2) W W') : ZS w W' now :=
  ⟨hthere_keep H.res hb (by omega), (hb.cell (p := ⟨w.heap.size, 0, none⟩) (by show w.heap.size < _; omega)).trans H.tm, H.bel.trans (hb.mono (by omega)), Nat.le_trans H.sz hb.size⟩
theorem ZS.new (w : World) (now : Int) (t u : TypeId) : ZS w ((w.alloc (.cells #[.int .i64 now] t)).alloc (.cells (hdL zH).toArray u)) now := by
  have b0 := (Below.refl w.heap.size w).alloc (Nat.le_refl _) (.cells #[.int .i64 now] t)
  have s0 : (w.alloc (.cells #[.int .i64 now] t)).heap.size = w.heap.size + 1 := World.size_alloc ..
  have b1 := (Below.refl (w.heap.size + 1) (w.alloc (.cells #[.int .i64 now] t))).alloc (by rw [s0]; exact Nat.le_refl _) (.cells (hdL zH).toArray u)
  have t1 := hthere_new (w.alloc (.cells #[.int .i64 now] t)) (hdL zH) u
  rw [s0] at t1
  exact ⟨t1, (b1.cell (p := ⟨w.heap.size, 0, none⟩) (by show w.heap.size < _; omega)).trans (hcellNew w [.int .i64 now] t 0), b0.alloc (by rw [s0]; omega) _, by rw [World.size_alloc, s0]; exact Nat.le_refl _⟩
theorem built0 : Tryd.prog.built 23 [] = some (hdL zH).toArray := by kernel_rfl
theorem built2 (x y : ByteArray) : Tryd.prog.built 23 [(0, .string x), (1, .string y)] = some (hdL ⟨x, y, ⟨#[]⟩, ⟨#[]⟩, 0, false, false, 0⟩).toArray := by kernel_rfl
theorem buildOp0 {ops : Array Oper} {rest : List Oper} {op : Oper} {a : Act} {W : World} {Q : Exit → Act → World → Prop} (hgd : op.guard = none) (ps : Array (Nat × Operand)) (ho : op.op = .build 23 ps)
    (hp : (ps.map fun (i, x) => (i, a.eval x)).toList = []) (hk : wpList Tryd.prog ops Q rest (a.put op.dst (hdA zH)) W) : wpList Tryd.prog ops Q (op :: rest) a W :=
  wpList_build hgd _ _ ho (by rw [hp, built0]; rfl) (by rw [hp, built0]; exact hk)
theorem buildOp2 {ops : Array Oper} {rest : List Oper} {op : Oper} {a : Act} {W : World} {Q : Exit → Act → World → Prop} (hgd : op.guard = none) (ps : Array (Nat × Operand)) (x y : ByteArray) (ho : op.op = .build 23 ps)
    (hp : (ps.map fun (i, x) => (i, a.eval x)).toList = [(0, .string x), (1, .string y)]) (hk : wpList Tryd.prog ops Q rest (a.put op.dst (hdA ⟨x, y, ⟨#[]⟩, ⟨#[]⟩, 0, false, false, 0⟩)) W) : wpList Tryd.prog ops Q (op :: rest) a W :=
  wpList_build hgd _ _ ho (by rw [hp, built2]; rfl) (by rw [hp, built2]; exact hk)
theorem HS.new (w : World) (h : Hd) (n : Nat) (now : Int) (t u : TypeId) (hn : n < w.heap.size) (hc : w.cell? ⟨n, 0, none⟩ = some (.int .i64 now)) : HS ((w.alloc (.cells (hdL h).toArray t)).alloc (.cells #[.int .i64 0] u)) w.heap.size n h 0 now := by
  have b0 := (Below.refl w.heap.size w).alloc (Nat.le_refl _) (.cells (hdL h).toArray t)
  have s0 : (w.alloc (.cells (hdL h).toArray t)).heap.size = w.heap.size + 1 := World.size_alloc ..
  have b1 := (Below.refl (w.heap.size + 1) (w.alloc (.cells (hdL h).toArray t))).alloc (by rw [s0]; exact Nat.le_refl _) (.cells #[.int .i64 0] u)
  have e1 := hrange_new (w.alloc (.cells (hdL h).toArray t)) [.int .i64 0] u 0 _ rfl
  have e2 := hthere_new (w.alloc (.cells (hdL h).toArray t)) [.int .i64 0] u 0 (by decide)
  rw [s0] at e1 e2
  exact ⟨hrange_keep (hrange_new w (hdL h) t) b1 (by omega), hthere_keep (hthere_new w (hdL h) t) b1 (by omega), e1, e2.2,
    (b1.cell (p := ⟨n, 0, none⟩) (by show n < _; omega)).trans ((b0.cell (p := ⟨n, 0, none⟩) hn).trans hc), hn, by rw [World.size_alloc, s0]; exact Nat.le_refl _⟩
/-- How long a text in a slot is. -/
def sszH : Value → Nat
  | .string t => t.size
  | _ => 0
theorem endH_yes {h : Hd} {ag : Int} (hp : 0 < ag) : endH (h, ag) = { h with ex := ag } := if_pos hp
theorem endH_no {h : Hd} {ag : Int} (hp : ¬ 0 < ag) : endH (h, ag) = h := if_neg hp
def PAR (s : ByteArray) (now : Int) (w : World) (e : Ending) (w' : World) : Prop := e = .returned (parV (parH s now)) ∧ Below w.heap.size w w'
set_option maxRecDepth 100000 in
theorem par_low (s : ByteArray) (now : Int) (w : World) (hs : s.size ≤ 9223372036854775806) (hi : -9223372036854775808 ≤ now) (h : now < 0) :
    Calls Tryd.prog 6 #[.string s, .int .i64 now] w (PAR s now w) := by
  have hs' : s.size ≤ 9223372036854775807 := by omega
  have hl := cutL_len 59 (bs s)
  have hf : (mk (cutL 59 (bs s)).1).size ≤ 9223372036854775807 := by rw [size_mk]; have := size_bs s; omega
  have HC := Lib.hid (show cutV3 59 s = .tuple #[.string (mk (cutL 59 (bs s)).1), .string (mk (cutL 59 (bs s)).2.1), .bool (cutL 59 (bs s)).2.2] from rfl)
  have HP := Lib.hid (par_no (s := s) (now := now) (by omega))
  generalize (cutL 59 (bs s)).2.2 = hz at *
  generalize mk (cutL 59 (bs s)).1 = f at *
  generalize hr : mk (cutL 59 (bs s)).2.1 = r at *
  generalize hX : nameS f = X at *
  generalize hY : valueS f = Y at *
  generalize hZ : hasS f = Z at *
  have HN := Lib.hid hX
  have HW := Lib.hid hY
  have HH := Lib.hid hZ
  clear hl hX hY hZ
  go_enter Tryd.func6, Tryd.ntmps6
  go_wp2_with fail
  refine (acut59 s _ hs').mono ?_
  rintro e w1 ⟨rfl, hb1⟩
  rw [HC.out]
  have R1 := Lib.hid ((ZS.new w now 3 23).keep (by refine hb1.mono ?_; rw [World.size_alloc, World.size_alloc]; exact Nat.le_refl _))
  clear hb1
  go_wp2_with fail
  refine (pair_any f _ hf).mono ?_
  rintro e w2 ⟨rfl, hb2⟩
  rw [HN.out, HW.out, HH.out]
  have R2 := Lib.hid (R1.out.keep (hb2.mono R1.out.sz))
  have hbb := Lib.hid hb2
  clear R1 hb2
  have tm := R2.out.tm
  go_upto_region 4 with fail
  refine wp_region_lit ?_
  refine buildOp0 rfl _ rfl (by simp) ?_
  refine storeOpH (f := zH) R2.out.res rfl _ _ rfl rfl rfl ?_
  go_wp2_with fail
  refine bodyPost_ret (v := .tuple #[hdA zH, .bool false]) (resH rfl rfl (World.rangeAt_setCells_same _ _ _ _ R2.out.res)) rfl ⟨?_, Below.hsetCells (Nat.le_succ _) _ _ _ R2.out.bel⟩
  rw [HP.out]
set_option maxRecDepth 100000 in
theorem par_high (s : ByteArray) (now : Int) (w : World) (hs : s.size ≤ 9223372036854775806) (h0 : 0 ≤ now) (hi : now ≤ 9223372036854775807) (h : 253402300799 < now) :
    Calls Tryd.prog 6 #[.string s, .int .i64 now] w (PAR s now w) := by
  have hs' : s.size ≤ 9223372036854775807 := by omega
  have hl := cutL_len 59 (bs s)
  have hf : (mk (cutL 59 (bs s)).1).size ≤ 9223372036854775807 := by rw [size_mk]; have := size_bs s; omega
  have HC := Lib.hid (show cutV3 59 s = .tuple #[.string (mk (cutL 59 (bs s)).1), .string (mk (cutL 59 (bs s)).2.1), .bool (cutL 59 (bs s)).2.2] from rfl)
  have HP := Lib.hid (par_no (s := s) (now := now) (by omega))
  generalize (cutL 59 (bs s)).2.2 = hz at *
  generalize mk (cutL 59 (bs s)).1 = f at *
  generalize hr : mk (cutL 59 (bs s)).2.1 = r at *
  generalize hX : nameS f = X at *
  generalize hY : valueS f = Y at *
  generalize hZ : hasS f = Z at *
  have HN := Lib.hid hX
  have HW := Lib.hid hY
  have HH := Lib.hid hZ
  clear hl hX hY hZ
  go_enter Tryd.func6, Tryd.ntmps6
  go_wp2_with fail
  refine (acut59 s _ hs').mono ?_
  rintro e w1 ⟨rfl, hb1⟩
  rw [HC.out]
  have R1 := Lib.hid ((ZS.new w now 3 23).keep (by refine hb1.mono ?_; rw [World.size_alloc, World.size_alloc]; exact Nat.le_refl _))
  clear hb1
  go_wp2_with fail
  refine (pair_any f _ hf).mono ?_
  rintro e w2 ⟨rfl, hb2⟩
  rw [HN.out, HW.out, HH.out]
  have R2 := Lib.hid (R1.out.keep (hb2.mono R1.out.sz))
  have hbb := Lib.hid hb2
  clear R1 hb2
  have tm := R2.out.tm
  go_upto_region 4 with fail
  refine wp_region_lit ?_
  refine buildOp0 rfl _ rfl (by simp) ?_
  refine storeOpH (f := zH) R2.out.res rfl _ _ rfl rfl rfl ?_
  go_wp2_with fail
  refine bodyPost_ret (v := .tuple #[hdA zH, .bool false]) (resH rfl rfl (World.rangeAt_setCells_same _ _ _ _ R2.out.res)) rfl ⟨?_, Below.hsetCells (Nat.le_succ _) _ _ _ R2.out.bel⟩
  rw [HP.out]
set_option maxRecDepth 100000 in
theorem par_has (s : ByteArray) (now : Int) (w : World) (hs : s.size ≤ 9223372036854775806) (h0 : 0 ≤ now) (h : now ≤ 253402300799) (hh : hasS (mk (cutL 59 (bs s)).1) = false) :
    Calls Tryd.prog 6 #[.string s, .int .i64 now] w (PAR s now w) := by
  have hs' : s.size ≤ 9223372036854775807 := by omega
  have hl := cutL_len 59 (bs s)
  have hf : (mk (cutL 59 (bs s)).1).size ≤ 9223372036854775807 := by rw [size_mk]; have := size_bs s; omega
  have HC := Lib.hid (show cutV3 59 s = .tuple #[.string (mk (cutL 59 (bs s)).1), .string (mk (cutL 59 (bs s)).2.1), .bool (cutL 59 (bs s)).2.2] from rfl)
  have HP := Lib.hid (par_no (s := s) (now := now) (by rw [hh]; simp))
  generalize (cutL 59 (bs s)).2.2 = hz at *
  generalize mk (cutL 59 (bs s)).1 = f at *
  generalize hr : mk (cutL 59 (bs s)).2.1 = r at *
  generalize hX : nameS f = X at *
  generalize hY : valueS f = Y at *
  generalize hZ : hasS f = Z at *
  subst hh
  have HN := Lib.hid hX
  have HW := Lib.hid hY
  have HH := Lib.hid hZ
  clear hl hX hY hZ
  go_enter Tryd.func6, Tryd.ntmps6
  go_wp2_with fail
  refine (acut59 s _ hs').mono ?_
  rintro e w1 ⟨rfl, hb1⟩
  rw [HC.out]
  have R1 := Lib.hid ((ZS.new w now 3 23).keep (by refine hb1.mono ?_; rw [World.size_alloc, World.size_alloc]; exact Nat.le_refl _))
  clear hb1
  go_wp2_with fail
  refine (pair_any f _ hf).mono ?_
  rintro e w2 ⟨rfl, hb2⟩
  rw [HN.out, HW.out, HH.out]
  have R2 := Lib.hid (R1.out.keep (hb2.mono R1.out.sz))
  have hbb := Lib.hid hb2
  clear R1 hb2
  have tm := R2.out.tm
  go_upto_region 4 with fail
  refine wp_region_lit ?_
  refine buildOp0 rfl _ rfl (by simp) ?_
  refine storeOpH (f := zH) R2.out.res rfl _ _ rfl rfl rfl ?_
  go_wp2_with fail
  refine bodyPost_ret (v := .tuple #[hdA zH, .bool false]) (resH rfl rfl (World.rangeAt_setCells_same _ _ _ _ R2.out.res)) rfl ⟨?_, Below.hsetCells (Nat.le_succ _) _ _ _ R2.out.bel⟩
  rw [HP.out]
set_option maxRecDepth 100000 in
theorem par_name (s : ByteArray) (now : Int) (w : World) (hs : s.size ≤ 9223372036854775806) (h0 : 0 ≤ now) (h : now ≤ 253402300799) (hh : hasS (mk (cutL 59 (bs s)).1) = true) (hn : nameS (mk (cutL 59 (bs s)).1) = ⟨#[]⟩) :
    Calls Tryd.prog 6 #[.string s, .int .i64 now] w (PAR s now w) := by
  have hs' : s.size ≤ 9223372036854775807 := by omega
  have hl := cutL_len 59 (bs s)
  have hf : (mk (cutL 59 (bs s)).1).size ≤ 9223372036854775807 := by rw [size_mk]; have := size_bs s; omega
  have HC := Lib.hid (show cutV3 59 s = .tuple #[.string (mk (cutL 59 (bs s)).1), .string (mk (cutL 59 (bs s)).2.1), .bool (cutL 59 (bs s)).2.2] from rfl)
  have HP := Lib.hid (par_no (s := s) (now := now) (by rw [hn]; simp))
  generalize (cutL 59 (bs s)).2.2 = hz at *
  generalize mk (cutL 59 (bs s)).1 = f at *
  generalize hr : mk (cutL 59 (bs s)).2.1 = r at *
  generalize hX : nameS f = X at *
  generalize hY : valueS f = Y at *
  generalize hZ : hasS f = Z at *
  subst hh hn
  have HN := Lib.hid hX
  have HW := Lib.hid hY
  have HH := Lib.hid hZ
  clear hl hX hY hZ
  go_enter Tryd.func6, Tryd.ntmps6
  go_wp2_with fail
  refine (acut59 s _ hs').mono ?_
  rintro e w1 ⟨rfl, hb1⟩
  rw [HC.out]
  have R1 := Lib.hid ((ZS.new w now 3 23).keep (by refine hb1.mono ?_; rw [World.size_alloc, World.size_alloc]; exact Nat.le_refl _))
  clear hb1
  go_wp2_with fail
  refine (pair_any f _ hf).mono ?_
  rintro e w2 ⟨rfl, hb2⟩
  rw [HN.out, HW.out, HH.out]
  have R2 := Lib.hid (R1.out.keep (hb2.mono R1.out.sz))
  have hbb := Lib.hid hb2
  clear R1 hb2
  have tm := R2.out.tm
  go_upto_region 4 with fail
  refine wp_region_lit ?_
  refine buildOp0 rfl _ rfl (by simp) ?_
  refine storeOpH (f := zH) R2.out.res rfl _ _ rfl rfl rfl ?_
  go_wp2_with fail
  refine bodyPost_ret (v := .tuple #[hdA zH, .bool false]) (resH rfl rfl (World.rangeAt_setCells_same _ _ _ _ R2.out.res)) rfl ⟨?_, Below.hsetCells (Nat.le_succ _) _ _ _ R2.out.bel⟩
  rw [HP.out]
set_option maxRecDepth 100000 in
theorem par_good (s : ByteArray) (now : Int) (w : World) (hs : s.size ≤ 9223372036854775806) (h0 : 0 ≤ now) (h : now ≤ 253402300799) (hh : hasS (mk (cutL 59 (bs s)).1) = true) (hn : nameS (mk (cutL 59 (bs s)).1) ≠ ⟨#[]⟩) :
    Calls Tryd.prog 6 #[.string s, .int .i64 now] w (PAR s now w) := by
  have hs' : s.size ≤ 9223372036854775807 := by omega
  have hl := cutL_len 59 (bs s)
  have hf : (mk (cutL 59 (bs s)).1).size ≤ 9223372036854775807 := by rw [size_mk]; have := size_bs s; omega
  have HC := Lib.hid (show cutV3 59 s = .tuple #[.string (mk (cutL 59 (bs s)).1), .string (mk (cutL 59 (bs s)).2.1), .bool (cutL 59 (bs s)).2.2] from rfl)
  have HP := Lib.hid (par_yes (s := s) (now := now) ⟨h0, h, hh, hn⟩)
  generalize (cutL 59 (bs s)).2.2 = hz at *
  generalize mk (cutL 59 (bs s)).1 = f at *
  generalize hr : mk (cutL 59 (bs s)).2.1 = r at *
  generalize hX : nameS f = X at *
  generalize hY : valueS f = Y at *
  generalize hZ : hasS f = Z at *
  subst hh
  have q := str_ne0 hn
  clear hn
  have HN := Lib.hid hX
  have HW := Lib.hid hY
  have HH := Lib.hid hZ
  clear hl hX hY hZ
  go_enter Tryd.func6, Tryd.ntmps6
  go_wp2_with fail
  refine (acut59 s _ hs').mono ?_
  rintro e w1 ⟨rfl, hb1⟩
  rw [HC.out]
  have R1 := Lib.hid ((ZS.new w now 3 23).keep (by refine hb1.mono ?_; rw [World.size_alloc, World.size_alloc]; exact Nat.le_refl _))
  clear hb1
  go_wp2_with fail
  refine (pair_any f _ hf).mono ?_
  rintro e w2 ⟨rfl, hb2⟩
  rw [HN.out, HW.out, HH.out]
  have R2 := Lib.hid (R1.out.keep (hb2.mono R1.out.sz))
  have hbb := Lib.hid hb2
  clear R1 hb2
  have tm := R2.out.tm
  have hrl : r.size ≤ 9223372036854775806 := by rw [← hr, size_mk]; have := size_bs s; have := (cutL_len 59 (bs s)).2.1; omega
  have HRR := Lib.hid (show (cutL 59 (bs s)).2.1 = bs r by rw [← hr, bs_mk])
  rw [HRR.out] at HP
  clear hr HRR
  go_upto_region 9 with fail
  have H0 := Lib.hid (HS.new w2 ⟨X, Y, ⟨#[]⟩, ⟨#[]⟩, 0, false, false, 0⟩ w.heap.size now 23 3 (by have := R2.out.sz; omega) R2.out.tm)
  have hbs := R2.out.sz
  have Z0 := Lib.hid (R2.out.keep ((((Below.refl (w.heap.size + 2) w2).alloc hbs (.cells (hdL ⟨X, Y, ⟨#[]⟩, ⟨#[]⟩, 0, false, false, 0⟩).toArray 23))).alloc (by rw [World.size_alloc]; omega) (.cells #[.int .i64 0] 3)))
  generalize hB : w2.heap.size = B at *
  clear R2 hbb tm
  go_loopw [15] (fun v wr => ∃ (m : ByteArray) (h : Hd) (ag : Int), v = .string m ∧ m.size ≤ 9223372036854775806 ∧ Hid (goH now (h, ag) (bs m) = goH now (⟨X, Y, ⟨#[]⟩, ⟨#[]⟩, 0, false, false, 0⟩, 0) (bs r)) ∧ Hid (HS wr B w.heap.size h ag now) ∧ Hid (ZS w wr now)) (fun v _ => sszH v)
  case atStart => exact ⟨r, _, _, rfl, hrl, Lib.hid rfl, H0, Z0⟩
  case round =>
    obtain ⟨m, g, ag, rfl, hm, HG, HA, HZ⟩ := hrel
    by_cases hm0 : m = ⟨#[]⟩
    · subst hm0
      have HF := Lib.hid (show goH now (⟨X, Y, ⟨#[]⟩, ⟨#[]⟩, 0, false, false, 0⟩, 0) (bs r) = (g, ag) from HG.out.symm.trans (goH_nil _ _))
      have ga := HA.out.ga
      have hle := HZ.out.sz
      by_cases hp : 0 < ag
      · have HE := Lib.hid (endH_yes (h := g) hp)
        have HA2 := Lib.hid (HA.out.set (g := { g with ex := ag }) 4 (.int .i64 ag) rfl)
        obtain ⟨c0, c1, c2, c3, c4, c5, c6, c7⟩ := HA.out.cells
        obtain ⟨f0, f1, f2, f3, f4, f5, f6, f7⟩ := HA.out.fzs
        go_upto_region 16 with fail
        refine wp_region_lit ?_
        refine loadOpH HA2.out.rd rfl _ rfl rfl ?_
        have hres : World.there (wr.setCell ⟨B, 4, none⟩ (.int .i64 ag)) (w.heap.size + 1) 0 8 := hthere_set HZ.out.res _ _
        refine storeOpH hres rfl _ _ rfl rfl rfl ?_
        go_wp2_with fail
        refine bodyPost_ret (v := .tuple #[hdA { g with ex := ag }, .bool true]) (resH rfl rfl (World.rangeAt_setCells_same _ _ _ _ hres)) rfl ⟨?_, Below.hsetCells (Nat.le_succ _) _ _ _ (HZ.out.bel.setCell (by show w.heap.size ≤ B; omega) _)⟩
        rw [HP.out, HF.out, HE.out]
      · have HE := Lib.hid (endH_no (h := g) hp)
        go_upto_region 16 with fail
        refine wp_region_lit ?_
        refine loadOpH HA.out.rd rfl _ rfl rfl ?_
        refine storeOpH HZ.out.res rfl _ _ rfl rfl rfl ?_
        go_wp2_with fail
        refine bodyPost_ret (v := .tuple #[hdA g, .bool true]) (resH rfl rfl (World.rangeAt_setCells_same _ _ _ _ HZ.out.res)) rfl ⟨?_, Below.hsetCells (Nat.le_succ _) _ _ _ HZ.out.bel⟩
        rw [HP.out, HF.out, HE.out]
    · have q0 := str_ne0 hm0
      have hm' : m.size ≤ 9223372036854775807 := by omega
      have hl := cutL_len 59 (bs m)
      have HM := Lib.hid (size_bs m)
      have HC2 := Lib.hid (show cutV3 59 m = .tuple #[.string (mk (cutL 59 (bs m)).1), .string (mk (cutL 59 (bs m)).2.1), .bool (cutL 59 (bs m)).2.2] from rfl)
      have HG2 := Lib.hid (show goH now (stepH now (g, ag) (bs (mk (cutL 59 (bs m)).1))) (bs (mk (cutL 59 (bs m)).2.1)) = goH now (⟨X, Y, ⟨#[]⟩, ⟨#[]⟩, 0, false, false, 0⟩, 0) (bs r) by rw [bs_mk, bs_mk, ← goH_cut]; exact HG.out)
      have z1 : (mk (cutL 59 (bs m)).1).size ≤ 9223372036854775806 := by rw [size_mk]; have := size_bs m; omega
      have z2 : (mk (cutL 59 (bs m)).2.1).size < m.size := by
        have hne : bs m ≠ [] := fun e => hm0 (bs_inj (by rw [e]; rfl))
        have := hl.2.2 hne
        rw [size_mk]; have := size_bs m; omega
      clear HG hl hm0 HM
      generalize (cutL 59 (bs m)).2.2 = hz2 at *
      generalize mk (cutL 59 (bs m)).1 = one at *
      generalize mk (cutL 59 (bs m)).2.1 = nxt at *
      have z3 := name_len one
      have z4 := value_len one
      have HT := Lib.hid (show stepH now (g, ag) (bs one) = (attK (kindN (nameS one)) g (valueS one), agK (kindN (nameS one)) ag now (valueS one)) by unfold stepH; rw [mk_bs])
      rw [HT.out] at HG2
      clear HT
      go_wp2_with fail
      refine (acut59 m _ hm').mono ?_
      rintro e v1 ⟨rfl, hb1⟩
      rw [HC2.out]
      have HA1 := Lib.hid (HA.out.keep hb1)
      have HZ1 := Lib.hid (HZ.out.keep (hb1.mono HZ.out.sz))
      clear HA HZ hb1
      go_wp2_with fail
      refine (pair_any one _ (by omega)).mono ?_
      rintro e v2 ⟨rfl, hb2⟩
      have HA2 := Lib.hid (HA1.out.keep hb2)
      have HZ2 := Lib.hid (HZ1.out.keep (hb2.mono HZ1.out.sz))
      clear HA1 HZ1 hb2
      go_wp2_with fail
      refine (att_any (nameS one) (valueS one) _ B w.heap.size g ag now (by omega) (by omega) HA2.out ⟨h0, h⟩).mono ?_
      rintro e v3 ⟨rfl, hA, hb3⟩
      have HA3 := Lib.hid hA
      have HZ3 := Lib.hid (HZ2.out.keep (hb3.mono (by omega)))
      clear HA2 HZ2 hb3 hA
      go_wp2_with fail
      go_roundw
      case rel => exact ⟨nxt, _, _, rfl, by omega, HG2, HA3, HZ3⟩
      case measure => simp [sszH]; omega
theorem par_any (s : ByteArray) (now : Int) (w : World) (hs : s.size ≤ 9223372036854775806) (hi : -9223372036854775808 ≤ now) (hj : now ≤ 9223372036854775807) :
    Calls Tryd.prog 6 #[.string s, .int .i64 now] w fun e w' => e = .returned (parV (parH s now)) ∧ Below w.heap.size w w' := by
  by_cases h1 : now < 0
  · exact par_low s now w hs hi h1
  by_cases h2 : 253402300799 < now
  · exact par_high s now w hs (by omega) hj h2
  cases h3 : hasS (mk (cutL 59 (bs s)).1)
  · exact par_has s now w hs (by omega) (by omega) h3
  by_cases h4 : nameS (mk (cutL 59 (bs s)).1) = ⟨#[]⟩
  · exact par_name s now w hs (by omega) (by omega) h3 h4
  · exact par_good s now w hs (by omega) (by omega) h3 h4
end Go.Proofs.YtngamlikhgilhaaDoor
