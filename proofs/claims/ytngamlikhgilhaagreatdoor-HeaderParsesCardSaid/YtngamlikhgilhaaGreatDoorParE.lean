/- Contract of the reference's Parse. (printed by wip/genpare.py) -/
import Derived.Test.YtngamlikhgilhaaGreatDoorParD
import Derived.Deep.RegionHeld
import Derived.StillTailTactics
namespace Go.Proofs.YtngamlikhgilhaaGreatDoor
open Go.RowKit Go.Shelf

theorem resP16 {W : World} {b : Nat} {f : Hd} {x : Bool} {a : Act} (h4 : a.tmps[4]?.getD undef = .pointer (some ⟨b, 0, none⟩)) (h5 : a.tmps[5]?.getD undef = .bool x) (h : W.rangeAt b 0 (hdL f)) : (results Tryz.f9 a.tmps).run Tryz.prog W = .ok (.tuple #[hdA f, .bool x]) W := by
  have h1 := load16 h
  simp [results, Tryz.results9, asAddr, h4, h5, h1]
theorem built16 : Tryz.prog.built 27 [] = some (hdL zH).toArray := by kernel_rfl
theorem buildOp16 {ops : Array Oper} {rest : List Oper} {op : Oper} {a : Act} {W : World} {Q : Exit → Act → World → Prop} (hgd : op.guard = none) (ps : Array (Nat × Operand)) (ho : op.op = .build 27 ps)
    (hp : (ps.map fun (i, x) => (i, a.eval x)).toList = []) (hk : wpList Tryz.prog ops Q rest (a.put op.dst (hdA zH)) W) : wpList Tryz.prog ops Q (op :: rest) a W :=
  wpList_build hgd _ _ ho (by rw [hp, built16]; rfl) (by rw [hp, built16]; exact hk)
theorem still_load16 {ops : Array Oper} {rest : List Oper} {op : Oper} {a : Act} {W : World} {Q : Act → Prop} {b : Nat} {f : Hd} (h : W.rangeAt b 0 (hdL f)) (hw : ∀ y, Region.wanted op y = true) (x : Operand) (ho : op.op = .load 27 x)
    (hx : a.eval x = .pointer (some ⟨b, 0, none⟩)) (hk : wpStill Tryz.prog ops W Q rest (a.put op.dst (hdA f))) : wpStill Tryz.prog ops W Q (op :: rest) a := by
  rw [wpStill, if_pos (hw _)]
  unfold Oper.still execOp
  simp only [ho, hx, Instr.loadAt, Instr.sureAddr, Sem.run_bind, Sem.run_pure, Result.andThen_ok, load16 h]
  exact ⟨rfl, hk⟩
theorem segs_len : ∀ l : List UInt8, ∀ x ∈ segs l, x.length ≤ l.length
  | [], x, hx => by rw [show segs [] = [[]] from rfl] at hx; rw [List.mem_singleton.1 hx]; exact Nat.le_refl _
  | y :: l, x, hx => by
    have ih := segs_len l
    have hne := segs_ne l
    rw [segs_cons] at hx
    split at hx
    · rcases List.mem_cons.1 hx with rfl | hx
      · exact Nat.zero_le _
      · exact Nat.le_succ_of_le (ih x hx)
    · cases hs : segs l with
      | nil => exact absurd hs hne
      | cons g t =>
        rw [hs] at hx ih
        rcases List.mem_cons.1 hx with rfl | hx
        · rw [List.headD_cons, List.length_cons, List.length_cons]; exact Nat.succ_le_succ (ih g (List.mem_cons_self ..))
        · exact Nat.le_succ_of_le (ih x (List.mem_cons_of_mem _ hx))
theorem segs_num (l : List UInt8) : (segs l).length ≤ l.length + 1 := by
  induction l with
  | nil => exact Nat.le_refl _
  | cons x l ih =>
    have hne := segs_ne l
    rw [segs_cons, List.length_cons]
    split
    · rw [List.length_cons]; omega
    · rw [List.length_cons, List.length_tail]
      have : 0 < (segs l).length := List.length_pos_iff.2 hne
      omega
theorem agK_of (k : Nat) (ag now : Int) (v : ByteArray) (hn : 0 ≤ now) : agK k ag now v = if k = 2 then (if 0 < agV v now then agV v now else ag) else ag := by
  unfold agK agV
  by_cases hk : k = 2
  · rw [if_pos hk, if_pos hk]
    by_cases h0 : ageN v = 0
    · rw [if_pos h0, if_pos h0]; rfl
    · rw [if_neg h0, if_neg h0]
      by_cases h1 : 0 < ageN v
      · rw [if_pos h1, if_pos h1, if_pos (by omega)]
      · rw [if_neg h1, if_neg h1]; rfl
  · rw [if_neg hk, if_neg hk]
/-- Parse's memory: the result's cells, and the parts. -/
structure PZ (w W : World) (b cp : Nat) (q : List (List UInt8)) : Prop where
  res : W.there w.heap.size 0 8
  lo : w.heap.size + 1 ≤ W.heap.size
  row : PT (w.heap.size + 1) b cp W q
  bel : Below w.heap.size w W
theorem PZ.keep {w W W' : World} {b cp : Nat} {q : List (List UInt8)} (H : PZ w W b cp q) (hb : Below W.heap.size W W') : PZ w W' b cp q :=
  ⟨hthere_keep H.res hb (by have := H.lo; omega), Nat.le_trans H.lo hb.size, H.row.keep hb, H.bel.trans (hb.mono H.bel.size)⟩
/-- Nothing below n changed but in block c. -/
theorem PZ.store {w W : World} {b cp c : Nat} {q : List (List UInt8)} (H : PZ w W b cp q) (h0 : w.heap.size < c) (h1 : c ≠ b) (h : Hd) : PZ w (W.setCells c 0 (hdL h)) b cp q := by
  have hz : W.heap.size ≤ (W.setCells c 0 (hdL h)).heap.size := (Below.hsetCells (Nat.zero_le c) (hdL h) 0 W (Below.refl 0 W)).size
  refine ⟨World.there_setCells H.res _ _ _, Nat.le_trans H.lo hz, ⟨H.row.le, H.row.lo, Nat.lt_of_lt_of_le H.row.lt hz, fun i hi j hj => ?_⟩, Below.hsetCells (Nat.le_of_lt h0) _ _ _ H.bel⟩
  rw [World.cell?_setCells_out c (hdL h) 0 W ⟨b, i * 3 + j, none⟩ (fun hb _ => absurd hb.symm h1)]
  exact H.row.at_ i hi j hj
theorem RB.put {c : Nat} {W : World} {g : Hd} (H : RB c W g) (h : Hd) : RB c (W.setCells c 0 (hdL h)) h := by
  have hz : W.heap.size ≤ (W.setCells c 0 (hdL h)).heap.size := (Below.hsetCells (Nat.zero_le c) (hdL h) 0 W (Below.refl 0 W)).size
  exact ⟨World.rangeAt_setCells_same _ _ _ _ H.wr, World.there_setCells H.wr _ _ _, Nat.lt_of_lt_of_le H.lt hz⟩
theorem par_hd {s : ByteArray} {now : Int} {q : List (List UInt8)} (hq : segs (bs s) = q) (f : List UInt8) (r : List (List UInt8)) (e : q = f :: r) :
    parH s now = if 0 ≤ now ∧ now ≤ 253402300799 ∧ hasS (mk f) = true ∧ nameS (mk f) ≠ ⟨#[]⟩ then some (endH (r.foldl (stepH now) (⟨nameS (mk f), valueS (mk f), ⟨#[]⟩, ⟨#[]⟩, 0, false, false, 0⟩, 0))) else none := by
  rw [par_P]
  unfold parP
  rw [hq, e, List.headD_cons, List.tail_cons]
  split <;> rfl
set_option maxHeartbeats 2000000 in
set_option maxRecDepth 100000 in
theorem rpar_low (s : ByteArray) (now : Int) (w : World) (hs : s.size ≤ 1000) (f : List UInt8) (r : List (List UInt8)) (hq : segs (bs s) = f :: r) (h : now < 0) :
    Calls Tryz.prog 9 #[.string s, .int .i64 now] w fun e w' => e = .returned (parV (parH s now)) ∧ Below w.heap.size w w' := by
  have HP := Lib.hid (show parV (parH s now) = .tuple #[hdA zH, .bool false] by rw [par_hd hq f r rfl, if_neg (by omega)]; rfl)
  have hl := segs_len (bs s)
  rw [hq, ← size_bs] at hl
  go_enter Tryz.func9, Tryz.ntmps9
  go_wp2_with fail
  refine (rparts16_any s _ hs).mono ?_
  rintro e w1 ⟨b, cp, rfl, hb1, hrow⟩
  rw [hq] at hrow ⊢
  have Z1 : PZ w w1 b cp (f :: r) := by
    have b0 := (Below.refl w.heap.size w).alloc (Nat.le_refl _) (.cells (hdL zH).toArray 27)
    have e0 : (w.alloc (.cells (hdL zH).toArray 27)).heap.size = w.heap.size + 1 := World.size_alloc ..
    have hb2 : Below (w.heap.size + 1) (w.alloc (.cells (hdL zH).toArray 27)) w1 := e0 ▸ hb1
    exact ⟨hthere_keep (hthere_new w (hdL zH) _) hb2 (by omega), by have := hb2.size; rw [e0] at this; exact this, e0 ▸ hrow, b0.trans (hb2.mono (by omega))⟩
  have hc0 : w1.cell? ⟨b, 0, none⟩ = some (.string (nameS (mk f))) := Z1.row.at_ 0 (by simp) 0 (by decide)
  have hc1 : w1.cell? ⟨b, 1, none⟩ = some (.string (valueS (mk f))) := Z1.row.at_ 0 (by simp) 1 (by decide)
  have hc2 : w1.cell? ⟨b, 2, none⟩ = some (.bool (hasS (mk f))) := Z1.row.at_ 0 (by simp) 2 (by decide)
  have HZ := Lib.hid Z1
  clear hb1 hrow Z1
  clear hl
  go_upto_region 3 with fail
  refine wp_region_lit ?_
  refine buildOp16 rfl _ rfl (by simp) ?_
  refine storeOp16 (f := zH) HZ.out.res rfl _ _ rfl rfl rfl ?_
  go_wp2_with fail
  refine bodyPost_ret (v := .tuple #[hdA zH, .bool false]) (resP16 rfl rfl (World.rangeAt_setCells_same _ _ _ _ HZ.out.res)) rfl ⟨?_, Below.hsetCells (Nat.le_refl _) _ _ _ HZ.out.bel⟩
  rw [HP.out]
set_option maxHeartbeats 2000000 in
set_option maxRecDepth 100000 in
theorem rpar_high (s : ByteArray) (now : Int) (w : World) (hs : s.size ≤ 1000) (f : List UInt8) (r : List (List UInt8)) (hq : segs (bs s) = f :: r) (h0 : 0 ≤ now) (h : 253402300799 < now) :
    Calls Tryz.prog 9 #[.string s, .int .i64 now] w fun e w' => e = .returned (parV (parH s now)) ∧ Below w.heap.size w w' := by
  have HP := Lib.hid (show parV (parH s now) = .tuple #[hdA zH, .bool false] by rw [par_hd hq f r rfl, if_neg (by omega)]; rfl)
  have hl := segs_len (bs s)
  rw [hq, ← size_bs] at hl
  go_enter Tryz.func9, Tryz.ntmps9
  go_wp2_with fail
  refine (rparts16_any s _ hs).mono ?_
  rintro e w1 ⟨b, cp, rfl, hb1, hrow⟩
  rw [hq] at hrow ⊢
  have Z1 : PZ w w1 b cp (f :: r) := by
    have b0 := (Below.refl w.heap.size w).alloc (Nat.le_refl _) (.cells (hdL zH).toArray 27)
    have e0 : (w.alloc (.cells (hdL zH).toArray 27)).heap.size = w.heap.size + 1 := World.size_alloc ..
    have hb2 : Below (w.heap.size + 1) (w.alloc (.cells (hdL zH).toArray 27)) w1 := e0 ▸ hb1
    exact ⟨hthere_keep (hthere_new w (hdL zH) _) hb2 (by omega), by have := hb2.size; rw [e0] at this; exact this, e0 ▸ hrow, b0.trans (hb2.mono (by omega))⟩
  have hc0 : w1.cell? ⟨b, 0, none⟩ = some (.string (nameS (mk f))) := Z1.row.at_ 0 (by simp) 0 (by decide)
  have hc1 : w1.cell? ⟨b, 1, none⟩ = some (.string (valueS (mk f))) := Z1.row.at_ 0 (by simp) 1 (by decide)
  have hc2 : w1.cell? ⟨b, 2, none⟩ = some (.bool (hasS (mk f))) := Z1.row.at_ 0 (by simp) 2 (by decide)
  have HZ := Lib.hid Z1
  clear hb1 hrow Z1
  clear hl
  go_upto_region 3 with fail
  refine wp_region_lit ?_
  refine buildOp16 rfl _ rfl (by simp) ?_
  refine storeOp16 (f := zH) HZ.out.res rfl _ _ rfl rfl rfl ?_
  go_wp2_with fail
  refine bodyPost_ret (v := .tuple #[hdA zH, .bool false]) (resP16 rfl rfl (World.rangeAt_setCells_same _ _ _ _ HZ.out.res)) rfl ⟨?_, Below.hsetCells (Nat.le_refl _) _ _ _ HZ.out.bel⟩
  rw [HP.out]
set_option maxHeartbeats 2000000 in
set_option maxRecDepth 100000 in
theorem rpar_has (s : ByteArray) (now : Int) (w : World) (hs : s.size ≤ 1000) (f : List UInt8) (r : List (List UInt8)) (hq : segs (bs s) = f :: r) (h0 : 0 ≤ now) (h1 : now ≤ 253402300799) (h : hasS (mk f) = false) :
    Calls Tryz.prog 9 #[.string s, .int .i64 now] w fun e w' => e = .returned (parV (parH s now)) ∧ Below w.heap.size w w' := by
  have HP := Lib.hid (show parV (parH s now) = .tuple #[hdA zH, .bool false] by rw [par_hd hq f r rfl, if_neg (by intro h9; rw [h] at h9; exact absurd h9.2.2.1 (by decide))]; rfl)
  have hl := segs_len (bs s)
  rw [hq, ← size_bs] at hl
  go_enter Tryz.func9, Tryz.ntmps9
  go_wp2_with fail
  refine (rparts16_any s _ hs).mono ?_
  rintro e w1 ⟨b, cp, rfl, hb1, hrow⟩
  rw [hq] at hrow ⊢
  have Z1 : PZ w w1 b cp (f :: r) := by
    have b0 := (Below.refl w.heap.size w).alloc (Nat.le_refl _) (.cells (hdL zH).toArray 27)
    have e0 : (w.alloc (.cells (hdL zH).toArray 27)).heap.size = w.heap.size + 1 := World.size_alloc ..
    have hb2 : Below (w.heap.size + 1) (w.alloc (.cells (hdL zH).toArray 27)) w1 := e0 ▸ hb1
    exact ⟨hthere_keep (hthere_new w (hdL zH) _) hb2 (by omega), by have := hb2.size; rw [e0] at this; exact this, e0 ▸ hrow, b0.trans (hb2.mono (by omega))⟩
  have hc0 : w1.cell? ⟨b, 0, none⟩ = some (.string (nameS (mk f))) := Z1.row.at_ 0 (by simp) 0 (by decide)
  have hc1 : w1.cell? ⟨b, 1, none⟩ = some (.string (valueS (mk f))) := Z1.row.at_ 0 (by simp) 1 (by decide)
  have hc2 : w1.cell? ⟨b, 2, none⟩ = some (.bool (hasS (mk f))) := Z1.row.at_ 0 (by simp) 2 (by decide)
  have HZ := Lib.hid Z1
  clear hb1 hrow Z1
  clear hl
  rw [h] at hc2
  go_upto_region 3 with fail
  refine wp_region_lit ?_
  refine buildOp16 rfl _ rfl (by simp) ?_
  refine storeOp16 (f := zH) HZ.out.res rfl _ _ rfl rfl rfl ?_
  go_wp2_with fail
  refine bodyPost_ret (v := .tuple #[hdA zH, .bool false]) (resP16 rfl rfl (World.rangeAt_setCells_same _ _ _ _ HZ.out.res)) rfl ⟨?_, Below.hsetCells (Nat.le_refl _) _ _ _ HZ.out.bel⟩
  rw [HP.out]
set_option maxHeartbeats 2000000 in
set_option maxRecDepth 100000 in
theorem rpar_name (s : ByteArray) (now : Int) (w : World) (hs : s.size ≤ 1000) (f : List UInt8) (r : List (List UInt8)) (hq : segs (bs s) = f :: r) (h0 : 0 ≤ now) (h1 : now ≤ 253402300799) (h : hasS (mk f) = true) (h2 : nameS (mk f) = ⟨#[]⟩) :
    Calls Tryz.prog 9 #[.string s, .int .i64 now] w fun e w' => e = .returned (parV (parH s now)) ∧ Below w.heap.size w w' := by
  have HP := Lib.hid (show parV (parH s now) = .tuple #[hdA zH, .bool false] by rw [par_hd hq f r rfl, if_neg (by exact fun h9 => h9.2.2.2 h2)]; rfl)
  have hl := segs_len (bs s)
  rw [hq, ← size_bs] at hl
  go_enter Tryz.func9, Tryz.ntmps9
  go_wp2_with fail
  refine (rparts16_any s _ hs).mono ?_
  rintro e w1 ⟨b, cp, rfl, hb1, hrow⟩
  rw [hq] at hrow ⊢
  have Z1 : PZ w w1 b cp (f :: r) := by
    have b0 := (Below.refl w.heap.size w).alloc (Nat.le_refl _) (.cells (hdL zH).toArray 27)
    have e0 : (w.alloc (.cells (hdL zH).toArray 27)).heap.size = w.heap.size + 1 := World.size_alloc ..
    have hb2 : Below (w.heap.size + 1) (w.alloc (.cells (hdL zH).toArray 27)) w1 := e0 ▸ hb1
    exact ⟨hthere_keep (hthere_new w (hdL zH) _) hb2 (by omega), by have := hb2.size; rw [e0] at this; exact this, e0 ▸ hrow, b0.trans (hb2.mono (by omega))⟩
  have hc0 : w1.cell? ⟨b, 0, none⟩ = some (.string (nameS (mk f))) := Z1.row.at_ 0 (by simp) 0 (by decide)
  have hc1 : w1.cell? ⟨b, 1, none⟩ = some (.string (valueS (mk f))) := Z1.row.at_ 0 (by simp) 1 (by decide)
  have hc2 : w1.cell? ⟨b, 2, none⟩ = some (.bool (hasS (mk f))) := Z1.row.at_ 0 (by simp) 2 (by decide)
  have HZ := Lib.hid Z1
  clear hb1 hrow Z1
  clear hl
  rw [h] at hc2
  rw [h2] at hc0
  go_upto_region 3 with fail
  refine wp_region_lit ?_
  refine buildOp16 rfl _ rfl (by simp) ?_
  refine storeOp16 (f := zH) HZ.out.res rfl _ _ rfl rfl rfl ?_
  go_wp2_with fail
  refine bodyPost_ret (v := .tuple #[hdA zH, .bool false]) (resP16 rfl rfl (World.rangeAt_setCells_same _ _ _ _ HZ.out.res)) rfl ⟨?_, Below.hsetCells (Nat.le_refl _) _ _ _ HZ.out.bel⟩
  rw [HP.out]
set_option maxHeartbeats 2000000 in
set_option maxRecDepth 100000 in
theorem rpar_good (s : ByteArray) (now : Int) (w : World) (hs : s.size ≤ 1000) (f : List UInt8) (r : List (List UInt8)) (hq : segs (bs s) = f :: r) (h0 : 0 ≤ now) (h1 : now ≤ 253402300799) (h : hasS (mk f) = true) (h2 : nameS (mk f) ≠ ⟨#[]⟩) :
    Calls Tryz.prog 9 #[.string s, .int .i64 now] w fun e w' => e = .returned (parV (parH s now)) ∧ Below w.heap.size w w' := by
  have HP := Lib.hid (show parV (parH s now) = .tuple #[hdA (endH (r.foldl (stepH now) (⟨nameS (mk f), valueS (mk f), ⟨#[]⟩, ⟨#[]⟩, 0, false, false, 0⟩, 0))), .bool true] by rw [par_hd hq f r rfl, if_pos ⟨h0, h1, h, h2⟩]; rfl)
  have hl := segs_len (bs s)
  rw [hq, ← size_bs] at hl
  go_enter Tryz.func9, Tryz.ntmps9
  go_wp2_with fail
  refine (rparts16_any s _ hs).mono ?_
  rintro e w1 ⟨b, cp, rfl, hb1, hrow⟩
  rw [hq] at hrow ⊢
  have Z1 : PZ w w1 b cp (f :: r) := by
    have b0 := (Below.refl w.heap.size w).alloc (Nat.le_refl _) (.cells (hdL zH).toArray 27)
    have e0 : (w.alloc (.cells (hdL zH).toArray 27)).heap.size = w.heap.size + 1 := World.size_alloc ..
    have hb2 : Below (w.heap.size + 1) (w.alloc (.cells (hdL zH).toArray 27)) w1 := e0 ▸ hb1
    exact ⟨hthere_keep (hthere_new w (hdL zH) _) hb2 (by omega), by have := hb2.size; rw [e0] at this; exact this, e0 ▸ hrow, b0.trans (hb2.mono (by omega))⟩
  have hc0 : w1.cell? ⟨b, 0, none⟩ = some (.string (nameS (mk f))) := Z1.row.at_ 0 (by simp) 0 (by decide)
  have hc1 : w1.cell? ⟨b, 1, none⟩ = some (.string (valueS (mk f))) := Z1.row.at_ 0 (by simp) 1 (by decide)
  have hc2 : w1.cell? ⟨b, 2, none⟩ = some (.bool (hasS (mk f))) := Z1.row.at_ 0 (by simp) 2 (by decide)
  have HZ := Lib.hid Z1
  clear hb1 hrow Z1
  rw [h] at hc2
  have qn := str_ne0 h2
  generalize nameS (mk f) = N0 at *
  generalize valueS (mk f) = V0 at *
  go_upto_region 4 with fail
  have hd0 : w1.drew.cell? ⟨b, 0, none⟩ = some (.string N0) := hc0
  have hd1 : w1.drew.cell? ⟨b, 1, none⟩ = some (.string V0) := hc1
  have ZD := Lib.hid (HZ.out.keep (Below.drew (Below.refl w1.heap.size w1)))
  clear HZ hc0 hc1 hc2 h h2
  refine wp_region_held_drew (S := fun W => W.cell? ⟨b, 0, none⟩ = some (.string N0) ∧ W.cell? ⟨b, 1, none⟩ = some (.string V0)) (by kernel_rfl) ⟨hd0, hd1⟩ (fun hHeld => ?_)
  generalize w1.drew = wd at *
  refine wpAnyH_take (i := 0) (v := ?_) rfl (by kernel_rfl) (by kernel_rfl) (by kernel_rfl) (fun _ _ _ h => h) (Or.inl ⟨by rfl, ?_⟩) hHeld ?_
  rotate_left
  · (intro W hSw; obtain ⟨e0, e1⟩ := hSw; go_simp; try with_reducible rfl)
  try simp only [List.getElem_toArray, List.getElem_cons_zero, Act.put, List.setIfInBounds_toArray, List.set_cons_zero, List.set_cons_succ]
  refine wpAnyH_take (i := 1) (v := ?_) rfl (by kernel_rfl) (by kernel_rfl) (by kernel_rfl) (fun _ _ _ h => h) (Or.inl ⟨by rfl, ?_⟩) hHeld ?_
  rotate_left
  · (intro W hSw; obtain ⟨e0, e1⟩ := hSw; go_simp; try with_reducible rfl)
  try simp only [List.getElem_toArray, List.getElem_cons_succ, List.getElem_cons_zero, Act.put, List.setIfInBounds_toArray, List.set_cons_zero, List.set_cons_succ]
  refine wpAnyH_take (i := 2) (v := ?_) rfl (by kernel_rfl) (by kernel_rfl) (by kernel_rfl) (fun _ _ _ h => h) (Or.inl ⟨by rfl, ?_⟩) hHeld ?_
  rotate_left
  · (intro W hSw; obtain ⟨e0, e1⟩ := hSw; go_simp; try with_reducible rfl)
  try simp only [List.getElem_toArray, List.getElem_cons_succ, List.getElem_cons_zero, Act.put, List.setIfInBounds_toArray, List.set_cons_zero, List.set_cons_succ]
  refine wpAnyH_take (i := 3) (v := ?_) rfl (by kernel_rfl) (by kernel_rfl) (by kernel_rfl) (fun _ _ _ h => h) (Or.inl ⟨by rfl, ?_⟩) hHeld ?_
  rotate_left
  · (intro W hSw; obtain ⟨e0, e1⟩ := hSw; go_simp; try with_reducible rfl)
  try simp only [List.getElem_toArray, List.getElem_cons_succ, List.getElem_cons_zero, Act.put, List.setIfInBounds_toArray, List.set_cons_zero, List.set_cons_succ]
  refine wpAnyH_take (i := 4) (v := ?_) rfl (by kernel_rfl) (by kernel_rfl) (by kernel_rfl) (fun _ _ _ h => h) (Or.inl ⟨by rfl, ?_⟩) hHeld ?_
  rotate_left
  · (intro W hSw; obtain ⟨e0, e1⟩ := hSw; go_simp; try with_reducible rfl)
  try simp only [List.getElem_toArray, List.getElem_cons_succ, List.getElem_cons_zero, Act.put, List.setIfInBounds_toArray, List.set_cons_zero, List.set_cons_succ]
  refine wpAnyH_take (i := 5) (v := ?_) rfl (by kernel_rfl) (by kernel_rfl) (by kernel_rfl) (fun _ _ _ h => h) (Or.inl ⟨by rfl, ?_⟩) hHeld ?_
  rotate_left
  · (intro W hSw; obtain ⟨e0, e1⟩ := hSw; go_simp; try with_reducible rfl)
  try simp only [List.getElem_toArray, List.getElem_cons_succ, List.getElem_cons_zero, Act.put, List.setIfInBounds_toArray, List.set_cons_zero, List.set_cons_succ]
  refine wpAnyH_take (i := 6) (v := ?_) rfl (by kernel_rfl) (by kernel_rfl) (by kernel_rfl) (fun _ _ _ h => h) (Or.inl ⟨by rfl, ?_⟩) hHeld ?_
  rotate_left
  · (intro W hSw; obtain ⟨e0, e1⟩ := hSw; go_simp; try with_reducible rfl)
  try simp only [List.getElem_toArray, List.getElem_cons_succ, List.getElem_cons_zero, Act.put, List.setIfInBounds_toArray, List.set_cons_zero, List.set_cons_succ]
  refine wpAnyH_take (i := 7) (v := ?_) rfl (by kernel_rfl) (by kernel_rfl) (by kernel_rfl) (fun _ _ _ h => h) (Or.inl ⟨by rfl, ?_⟩) hHeld ?_
  rotate_left
  · (intro W hSw; obtain ⟨e0, e1⟩ := hSw; go_simp; try with_reducible rfl)
  try simp only [List.getElem_toArray, List.getElem_cons_succ, List.getElem_cons_zero, Act.put, List.setIfInBounds_toArray, List.set_cons_zero, List.set_cons_succ]
  refine wpAnyH_take (i := 8) (v := ?_) rfl (by kernel_rfl) (by kernel_rfl) (by kernel_rfl) (fun _ _ _ h => h) (Or.inl ⟨by rfl, ?_⟩) hHeld ?_
  rotate_left
  · (intro W hSw; obtain ⟨e0, e1⟩ := hSw; go_simp; try with_reducible rfl)
  try simp only [List.getElem_toArray, List.getElem_cons_succ, List.getElem_cons_zero, Act.put, List.setIfInBounds_toArray, List.set_cons_zero, List.set_cons_succ]
  refine wpAnyH_ready (rs := [9]) (by kernel_rfl) (by simp) ?_
  refine AllReadyH.cons rfl (fun K hK => ?_) AllReadyH.nil
  go_simp
  refine hK.out _ _ ⟨(World.cell?_alloc_some wd ⟨b, 0, none⟩ _ (by rw [hd0]; rfl)).trans hd0, (World.cell?_alloc_some wd ⟨b, 1, none⟩ _ (by rw [hd1]; rfl)).trans hd1⟩ (fun _ => ?_)
  clear hK K
  try simp only [List.getElem_toArray, List.getElem_cons_succ, List.getElem_cons_zero, Act.put, List.setIfInBounds_toArray, List.set_cons_zero, List.set_cons_succ]
  obtain ⟨v, ev, C0, hk, hbv, hzv⟩ := box_hd ⟨#[]⟩ ⟨#[]⟩ ⟨#[]⟩ ⟨#[]⟩ 0 false false 0 w wd 27 ZD.out.bel
  have ZV := Lib.hid (ZD.out.keep ((Below.refl wd.heap.size wd).alloc (Nat.le_refl _) (.cells #[.string ⟨#[]⟩, .string ⟨#[]⟩, .string ⟨#[]⟩, .string ⟨#[]⟩, .int .i64 0, .bool false, .bool false, .int .i64 0] 27)))
  rw [← ev] at ZV
  rw [← ev]
  have hcb : wd.heap.size ≠ b := by have := ZD.out.row.lt; omega
  have hcw : w.heap.size < wd.heap.size := by have := ZD.out.lo; omega
  have hv0 : v.cell? ⟨b, 0, none⟩ = some (.string N0) := by rw [ev]; exact (World.cell?_alloc_some wd ⟨b, 0, none⟩ _ (by rw [hd0]; rfl)).trans hd0
  have hv1 : v.cell? ⟨b, 1, none⟩ = some (.string V0) := by rw [ev]; exact (World.cell?_alloc_some wd ⟨b, 1, none⟩ _ (by rw [hd1]; rfl)).trans hd1
  clear ev hk hbv hzv hHeld hd0 hd1 ZD
  generalize wd.heap.size = B at *
  refine wpAnyH_ready (rs := [10]) (by kernel_rfl) (by simp) ?_
  refine AllReadyH.cons rfl (fun K hK => ?_) AllReadyH.nil
  rw [if_pos (by rfl)]
  refine wp_store_mid 27 (.tmp 7) (.tmp 42) rfl B 0 (hdL ⟨N0, V0, ⟨#[]⟩, ⟨#[]⟩, 0, false, false, 0⟩).toArray rfl rfl C0.wr (by kernel_rfl) (hdL_one _) ?_
  have Z2 := Lib.hid (ZV.out.store hcw hcb ⟨N0, V0, ⟨#[]⟩, ⟨#[]⟩, 0, false, false, 0⟩)
  have C2 := Lib.hid (C0.put ⟨N0, V0, ⟨#[]⟩, ⟨#[]⟩, 0, false, false, 0⟩)
  refine hK.out _ _ ⟨(World.cell?_setCells_out B _ 0 v ⟨b, 0, none⟩ (fun hb _ => absurd hb.symm hcb)).trans hv0, (World.cell?_setCells_out B _ 0 v ⟨b, 1, none⟩ (fun hb _ => absurd hb.symm hcb)).trans hv1⟩ (fun _ => ?_)
  clear hK K
  try simp only [List.getElem_toArray, List.getElem_cons_succ, List.getElem_cons_zero, Act.put]
  refine wpAnyH_done (by kernel_rfl) ?_ _
  obtain ⟨v2, ev⟩ : ∃ v2, v2 = v.setCells B 0 (hdL ⟨N0, V0, ⟨#[]⟩, ⟨#[]⟩, 0, false, false, 0⟩).toArray.toList := ⟨_, rfl⟩
  have Z3 : PZ w v2 b cp (f :: r) := by rw [ev]; exact Z2.out
  have C3 : RB B v2 ⟨N0, V0, ⟨#[]⟩, ⟨#[]⟩, 0, false, false, 0⟩ := by rw [ev]; exact C2.out
  rw [← ev]
  clear ev Z2 C2 C0 ZV hv0 hv1
  generalize hQ : f :: r = q at *
  have hr : r = q.drop 1 := by rw [← hQ]; rfl
  rw [hr] at HP
  have hql : q.length = r.length + 1 := by rw [← hQ]; rfl
  have hqn : r.length + 1 ≤ 1001 := by rw [← hql, ← hq]; have := segs_num (bs s); rw [← size_bs] at this; omega
  clear hr
  go_wp2_with fail
  go_loopw [8, 9] (fun ag i wr => ∃ (k : Nat) (g : Hd) (a : Int), 1 ≤ k ∧ k ≤ q.length ∧ ag = .int .i64 a ∧ i = .int .i64 k ∧ Hid ((q.drop k).foldl (stepH now) (g, a) = (q.drop 1).foldl (stepH now) (⟨N0, V0, ⟨#[]⟩, ⟨#[]⟩, 0, false, false, 0⟩, 0)) ∧ Hid (RB B wr g) ∧ Hid (PZ w wr b cp q)) (fun _ i _ => q.length - (intOf i).toNat)
  case atStart => exact ⟨1, _, 0, Nat.le_refl _, by rw [← hQ]; simp, rfl, rfl, Lib.hid rfl, Lib.hid C3, Lib.hid Z3⟩
  case round =>
    obtain ⟨k, g, a, hk1, hk2, rfl, rfl, HG, HB, HZ⟩ := hrel
    clear C3 Z3
    by_cases hlt : k < q.length
    · have hlt2 : (k : Int) < (r.length : Int) + 1 := by omega
      have HLT := Lib.hid (show k + 1 ≤ q.length by omega)
      have hcell0 : wr.cell? ⟨b, k * 3, none⟩ = some (.string (nameS (mk q[k]))) := HZ.out.row.at_ k hlt 0 (by decide)
      have hcell1 : wr.cell? ⟨b, k * 3 + 1, none⟩ = some (.string (valueS (mk q[k]))) := HZ.out.row.at_ k hlt 1 (by decide)
      have hlk := hl _ (List.getElem_mem hlt)
      have hN := name_len (mk q[k])
      have hV := value_len (mk q[k])
      rw [size_mk] at hN hV
      have HST := Lib.hid (show stepH now (g, a) q[k] = (attK (kindN (nameS (mk q[k]))) g (valueS (mk q[k])), agK (kindN (nameS (mk q[k]))) a now (valueS (mk q[k]))) from rfl)
      have HDR := Lib.hid (List.drop_eq_getElem_cons hlt)
      have HGN := Lib.hid (show (q.drop (k + 1)).foldl (stepH now) (attK (kindN (nameS (mk q[k]))) g (valueS (mk q[k])), agK (kindN (nameS (mk q[k]))) a now (valueS (mk q[k]))) = (q.drop 1).foldl (stepH now) (⟨N0, V0, ⟨#[]⟩, ⟨#[]⟩, 0, false, false, 0⟩, 0) by
        have h9 := HG.out
        rw [HDR.out, List.foldl_cons] at h9
        exact h9)
      clear HST HDR HG
      generalize nameS (mk q[k]) = N at *
      generalize valueS (mk q[k]) = V at *
      have hbl := HZ.out.row.lt
      go_wp2_with fail
      refine (rlower_any N _ (by omega)).mono ?_
      rintro e w2 ⟨rfl, hu⟩
      have HB2 := Lib.hid (HB.out.keep hu)
      have HZ2 := Lib.hid (HZ.out.keep hu)
      have hcell2 : w2.cell? ⟨b, k * 3 + 1, none⟩ = some (.string V) := (hu.cell (p := ⟨b, k * 3 + 1, none⟩) hbl).trans hcell1
      clear hu hcell0 hcell1 HB HZ hbl
      go_upto_region 10 with fail
      refine wp_region_still_tail 7 (by kernel_rfl) (by kernel_rfl) ?_
      simp only [List.take_succ_cons, List.take_zero, List.drop_succ_cons, List.drop_zero]
      have HBd : RB B { w2 with drawn := w2.drawn + 1 } g := HB2.out.keep (Below.drew (Below.refl _ _))
      have HZd : PZ w { w2 with drawn := w2.drawn + 1 } b cp q := HZ2.out.keep (Below.drew (Below.refl _ _))
      refine still_load16 HBd.rd (fun _ => rfl) _ rfl rfl ?_
      repeat still_step
      refine wpStill_nil ?_
      have hcelld : World.cell? { w2 with drawn := w2.drawn + 1 } ⟨b, k * 3 + 1, none⟩ = some (.string V) := hcell2
      generalize ({ heap := w2.heap, tape := w2.tape, drawn := w2.drawn + 1, os := w2.os, output := w2.output } : World) = wd at *
      clear HB2 HZ2 hcell2
      refine wpList_plain rfl (fun K hK => ?_)
      go_simp
      go_at_call 27
      refine (rattr_any g N V _ (by omega)).mono ?_
      rintro e w3 ⟨rfl, hu⟩
      refine hK _ _ ?_
      have HB3 := HBd.keep hu
      have HZ3 := HZd.keep hu
      have hcell3 : w3.cell? ⟨b, k * 3 + 1, none⟩ = some (.string V) := (hu.cell (p := ⟨b, k * 3 + 1, none⟩) HZd.row.lt).trans hcelld
      clear hu hcelld HBd HZd
      refine storeOp16 HB3.wr rfl _ _ rfl rfl rfl ?_
      obtain ⟨w4, ev⟩ : ∃ w4, w4 = w3.setCells B 0 (hdL (attK (kindN N) g V)) := ⟨_, rfl⟩
      have HZ4 := Lib.hid (show PZ w w4 b cp q by rw [ev]; exact HZ3.store hcw hcb _)
      have HB4 := Lib.hid (show RB B w4 (attK (kindN N) g V) by rw [ev]; exact HB3.put _)
      have hcell4 : w4.cell? ⟨b, k * 3 + 1, none⟩ = some (.string V) := by rw [ev]; exact (World.cell?_setCells_out B _ 0 w3 ⟨b, k * 3 + 1, none⟩ (fun hb _ => absurd hb.symm hcb)).trans hcell3
      rw [← ev]
      clear ev HZ3 HB3 hcell3
      by_cases hk : kindN N = 2
      · have qy := kn_yes1 hk
        have HK := Lib.hid hk
        clear hk
        go_wp2_with fail
        refine (rage_any V now _ (by omega) h0 h1).mono ?_
        rintro e w5 ⟨rfl, rfl⟩
        by_cases hp : 0 < agV V now
        · have HP2 := Lib.hid hp
          go_wp2_with fail
          refine (rage_any V now _ (by omega) h0 h1).mono ?_
          rintro e w5 ⟨rfl, rfl⟩
          go_wp2_with fail
          go_roundw
          case rel => exact ⟨k + 1, attK (kindN N) g V, agV V now, by omega, HLT.out, rfl, by go_num, Lib.hid (by rw [← HGN.out, agK_of _ _ _ _ h0, if_pos HK.out, if_pos HP2.out]), HB4, HZ4⟩
          case measure => have := HLT.out; simp [intOf]; omega
        · have HP2 := Lib.hid (show agV V now ≤ 0 by omega)
          go_wp2_with fail
          go_roundw
          case rel => exact ⟨k + 1, attK (kindN N) g V, a, by omega, HLT.out, rfl, by go_num, Lib.hid (by rw [← HGN.out, agK_of _ _ _ _ h0, if_pos HK.out, if_neg (by have := HP2.out; omega)]), HB4, HZ4⟩
          case measure => have := HLT.out; simp [intOf]; omega
      · have qy := kn_no1 hk
        have HK := Lib.hid hk
        clear hk
        go_wp2_with fail
        go_roundw
        case rel => exact ⟨k + 1, attK (kindN N) g V, a, by omega, HLT.out, rfl, by go_num, Lib.hid (by rw [← HGN.out, agK_of _ _ _ _ h0, if_neg HK.out]), HB4, HZ4⟩
        case measure => have := HLT.out; simp [intOf]; omega
    · have hlt2 : ¬ (k : Int) < (r.length : Int) + 1 := by omega
      obtain rfl : k = q.length := by omega
      have HF := Lib.hid (show (q.drop 1).foldl (stepH now) (⟨N0, V0, ⟨#[]⟩, ⟨#[]⟩, 0, false, false, 0⟩, 0) = (g, a) by rw [← HG.out, List.drop_length]; rfl)
      by_cases hp : 0 < a
      · have HE := Lib.hid (endH_yes (h := g) hp)
        have HB2 := Lib.hid (HB.out.set (g := { g with ex := a }) 4 (.int .i64 a) rfl)
        obtain ⟨c0, c1, c2, c3, c4, c5, c6, c7⟩ := HB.out.cells
        obtain ⟨f0, f1, f2, f3, f4, f5, f6, f7⟩ := HB.out.fzs
        go_upto_region 15 with fail
        refine wp_region_lit ?_
        refine loadOp16 HB2.out.rd rfl _ rfl rfl ?_
        have hres : World.there (wr.setCell ⟨B, 4, none⟩ (.int .i64 a)) w.heap.size 0 8 := hthere_set HZ.out.res _ _
        refine storeOp16 hres rfl _ _ rfl rfl rfl ?_
        go_wp2_with fail
        refine bodyPost_ret (v := .tuple #[hdA { g with ex := a }, .bool true]) (resP16 rfl rfl (World.rangeAt_setCells_same _ _ _ _ hres)) rfl ⟨?_, Below.hsetCells (Nat.le_refl _) _ _ _ (HZ.out.bel.setCell (by show w.heap.size ≤ B; omega) _)⟩
        rw [HP.out, HF.out, HE.out]
      · have HE := Lib.hid (endH_no (h := g) hp)
        go_upto_region 15 with fail
        refine wp_region_lit ?_
        refine loadOp16 HB.out.rd rfl _ rfl rfl ?_
        refine storeOp16 HZ.out.res rfl _ _ rfl rfl rfl ?_
        go_wp2_with fail
        refine bodyPost_ret (v := .tuple #[hdA g, .bool true]) (resP16 rfl rfl (World.rangeAt_setCells_same _ _ _ _ HZ.out.res)) rfl ⟨?_, Below.hsetCells (Nat.le_refl _) _ _ _ HZ.out.bel⟩
        rw [HP.out, HF.out, HE.out]
end Go.Proofs.YtngamlikhgilhaaGreatDoor
