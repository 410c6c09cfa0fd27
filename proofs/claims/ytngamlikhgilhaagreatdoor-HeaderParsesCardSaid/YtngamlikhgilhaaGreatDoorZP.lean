/- Ten cells of a struct by value: what lies there, what is written, what stays. -/
import Derived.Test.YtngamlikhgilhaaGreatDoorZO
import Derived.Test.YtngamlikhgilhaaGreatDoorZE
import Derived.Deep.MidRow
import Derived.Test.YtngamlikhgilhaaGreatDoorZG
import Derived.StillTailTactics
import Derived.Test.YtngamlikhgilhaaGreatDoorZC
namespace Go.Proofs.YtngamlikhgilhaaGreatDoor
open Go.RowKit

def fdL (f : Fd) : List Value := [.bool f.ht, .bool f.hd, .bool f.hm, .bool f.hy, .int .i64 f.y, .int .i64 f.m, .int .i64 f.d, .int .i64 f.h, .int .i64 f.n, .int .i64 f.s]
def fdA (f : Fd) : Value := .agg (fdL f).toArray
theorem fdL_one (f : Fd) : (fdL f).toArray.all (·.oneCell') = true := all_oneCell_toArray (fun v hv => by
  simp only [fdL, List.mem_cons, List.not_mem_nil, or_false] at hv
  rcases hv with rfl | rfl | rfl | rfl | rfl | rfl | rfl | rfl | rfl | rfl <;> rfl)
theorem range_keep {w w' : World} {b o N : Nat} {cs : List Value} (h : w.rangeAt b o cs) (hb : Below N w w') (hN : b < N) : w'.rangeAt b o cs := fun j v hv => (hb.cell (p := ⟨b, o + j, none⟩) hN).trans (h j v hv)
theorem there_keep {w w' : World} {b o N n : Nat} (h : w.there b o n) (hb : Below N w w') (hN : b < N) : w'.there b o n := fun j hj => by
  rw [hb.cell (p := ⟨b, o + j, none⟩) hN, hb.frozen (p := ⟨b, o + j, none⟩) hN]
  exact h j hj
theorem range_set {w : World} {b : Nat} {cs : List Value} (h : w.rangeAt b 0 cs) (j : Nat) (v : Value) : (w.setCell ⟨b, j, none⟩ v).rangeAt b 0 (cs.set j v) := fun i x hx => by
  rw [Nat.zero_add]
  by_cases e : j = i
  · subst e
    have hj : j < cs.length := by
      have := (List.getElem?_eq_some_iff.1 hx).1
      simpa using this
    rw [List.getElem?_set_self hj] at hx
    cases hx
    have h1 := h j _ (List.getElem?_eq_getElem hj)
    rw [Nat.zero_add] at h1
    exact World.cell?_setCell_same _ _ _ h1
  · rw [List.getElem?_set_ne e] at hx
    rw [World.cell?_setCell_other _ _ _ _ (by intro h9; injection h9 with _ h8 _; exact e h8)]
    have h1 := h i x hx
    rwa [Nat.zero_add] at h1
theorem range_set_apart {w : World} {b b' o : Nat} {cs : List Value} (h : w.rangeAt b o cs) (hn : b' ≠ b) (j : Nat) (v : Value) : (w.setCell ⟨b', j, none⟩ v).rangeAt b o cs := fun i x hx => by
  rw [World.cell?_setCell_other _ _ _ _ (by intro h9; injection h9 with h8; exact hn h8)]
  exact h i x hx
theorem there_set {w : World} {b o n : Nat} (h : w.there b o n) (a : Addr) (v : Value) : (w.setCell a v).there b o n := fun j hj => by
  refine ⟨?_, by rw [World.frozen?_setCell]; exact (h j hj).2⟩
  obtain ⟨u, hu⟩ := Option.isSome_iff_exists.1 (h j hj).1
  by_cases e : a = ⟨b, o + j, none⟩
  · subst e; rw [World.cell?_setCell_same _ _ _ hu]; rfl
  · rw [World.cell?_setCell_other _ _ _ _ e, hu]; rfl
theorem Below.setCells {n b : Nat} {w : World} (hb : n ≤ b) : ∀ (vs : List Value) (o : Nat) (W : World), Below n w W → Below n w (W.setCells b o vs)
  | [], _, _, h => h
  | v :: r, o, W, h => by
    rw [World.setCells]
    exact Below.setCells hb r (o + 1) _ (h.setCell hb v)
theorem cellNew (w : World) (cs : List Value) (t : TypeId) (j : Nat) : (w.alloc (.cells cs.toArray t)).cell? ⟨w.heap.size, j, none⟩ = cs[j]? := by
  rw [World.cell?_alloc_new]
  simp
theorem range_new (w : World) (cs : List Value) (t : TypeId) : (w.alloc (.cells cs.toArray t)).rangeAt w.heap.size 0 cs := fun j v hv => by rw [Nat.zero_add, cellNew]; exact hv
theorem there_new (w : World) (cs : List Value) (t : TypeId) : (w.alloc (.cells cs.toArray t)).there w.heap.size 0 cs.length := fun j hj => by
  rw [Nat.zero_add, cellNew, List.getElem?_eq_getElem hj]
  exact ⟨rfl, by go_simp⟩
theorem range_at {w : World} {b : Nat} {f : Fd} (h : w.rangeAt b 0 (fdL f)) : w.cell? ⟨b, 0, none⟩ = some (.bool f.ht) ∧ w.cell? ⟨b, 1, none⟩ = some (.bool f.hd) ∧ w.cell? ⟨b, 2, none⟩ = some (.bool f.hm) ∧ w.cell? ⟨b, 3, none⟩ = some (.bool f.hy) ∧ w.cell? ⟨b, 4, none⟩ = some (.int .i64 f.y) ∧
   w.cell? ⟨b, 5, none⟩ = some (.int .i64 f.m) ∧ w.cell? ⟨b, 6, none⟩ = some (.int .i64 f.d) ∧ w.cell? ⟨b, 7, none⟩ = some (.int .i64 f.h) ∧ w.cell? ⟨b, 8, none⟩ = some (.int .i64 f.n) ∧ w.cell? ⟨b, 9, none⟩ = some (.int .i64 f.s) :=
  ⟨h 0 _ rfl, h 1 _ rfl, h 2 _ rfl, h 3 _ rfl, h 4 _ rfl, h 5 _ rfl, h 6 _ rfl, h 7 _ rfl, h 8 _ rfl, h 9 _ rfl⟩
theorem there_at {w : World} {b : Nat} (h : w.there b 0 10) : w.frozen? ⟨b, 0, none⟩ = false ∧ w.frozen? ⟨b, 1, none⟩ = false ∧ w.frozen? ⟨b, 2, none⟩ = false ∧ w.frozen? ⟨b, 3, none⟩ = false ∧ w.frozen? ⟨b, 4, none⟩ = false ∧
   w.frozen? ⟨b, 5, none⟩ = false ∧ w.frozen? ⟨b, 6, none⟩ = false ∧ w.frozen? ⟨b, 7, none⟩ = false ∧ w.frozen? ⟨b, 8, none⟩ = false ∧ w.frozen? ⟨b, 9, none⟩ = false :=
  ⟨(h 0 (by decide)).2, (h 1 (by decide)).2, (h 2 (by decide)).2, (h 3 (by decide)).2, (h 4 (by decide)).2, (h 5 (by decide)).2, (h 6 (by decide)).2, (h 7 (by decide)).2, (h 8 (by decide)).2, (h 9 (by decide)).2⟩
/-- Two rows of ten cells: the given one, to be read; the result's, to be written. -/
structure FF (w W : World) (f : Fd) : Prop where
  rd : W.rangeAt w.heap.size 0 (fdL f)
  wr : W.there w.heap.size 0 10
  res : W.there (w.heap.size + 1) 0 10
  bel : Below w.heap.size w W
  sz : w.heap.size + 2 ≤ W.heap.size
theorem FF.set {w W : World} {f g : Fd} (h : FF w W f) (j : Nat) (v : Value) (hg : (fdL f).set j v = fdL g) : FF w (W.setCell ⟨w.heap.size, j, none⟩ v) g :=
  ⟨hg ▸ range_set h.rd j v, there_set h.wr _ _, there_set h.res _ _, h.bel.setCell (Nat.le_refl _) _, by rw [World.size_setCell]; exact h.sz⟩
theorem FF.keep {w W W' : World} {f : Fd} (h : FF w W f) (hb : Below W.heap.size W W') : FF w W' f := by
  have := h.sz
  exact ⟨range_keep h.rd hb (by omega), there_keep h.wr hb (by omega), there_keep h.res hb (by omega), Bsnoc h.bel hb, Nat.le_trans h.sz hb.size⟩
theorem FF.new (w : World) (f g : Fd) (t : TypeId) : FF w ((w.alloc (.cells (fdL f).toArray t)).alloc (.cells (fdL g).toArray t)) f := by
  have b0 := (Below.refl w.heap.size w).alloc (Nat.le_refl _) (.cells (fdL f).toArray t)
  have s0 : (w.alloc (.cells (fdL f).toArray t)).heap.size = w.heap.size + 1 := World.size_alloc ..
  have b1 := (Below.refl (w.heap.size + 1) (w.alloc (.cells (fdL f).toArray t))).alloc (by rw [s0]; exact Nat.le_refl _) (.cells (fdL g).toArray t)
  have t1 := there_new (w.alloc (.cells (fdL f).toArray t)) (fdL g) t
  rw [s0] at t1
  exact ⟨range_keep (range_new w (fdL f) _) b1 (by omega), there_keep (there_new w (fdL f) _) b1 (by omega), t1, b0.alloc (by rw [s0]; omega) _, by rw [World.size_alloc, s0]; exact Nat.le_refl _⟩
theorem loadF {W : World} {b : Nat} {f : Fd} (h : W.rangeAt b 0 (fdL f)) : (loadVar 113 ⟨b, 0, none⟩).run Tryz.prog W = .ok (fdA f) W := by
  have hu : (Tryz.prog.underlying 113).elim false TypeDesc.isRow = true := by kernel_rfl
  cases h1 : Tryz.prog.underlying 113 with
  | none => rw [h1] at hu; cases hu
  | some d =>
    rw [h1] at hu
    exact run_loadVar_mid W b 0 _ (fdL f) d h h1 hu (by kernel_rfl)
theorem storeF {W : World} {b : Nat} (f : Fd) (h : W.there b 0 10) : (storeVar 113 ⟨b, 0, none⟩ (fdA f)).run Tryz.prog W = .ok () (W.setCells b 0 (fdL f)) :=
  run_storeVar_mid W b 0 _ (fdL f).toArray h (by kernel_rfl) (fdL_one f)
theorem loadOpF {ops : Array Oper} {rest : List Oper} {op : Oper} {a : Act} {W : World} {Q : Exit → Act → World → Prop} {b : Nat} {f : Fd} (h : W.rangeAt b 0 (fdL f)) (hgd : op.guard = none) (x : Operand) (ho : op.op = .load 113 x)
    (hx : a.eval x = .pointer (some ⟨b, 0, none⟩)) (hk : wpList Tryz.prog ops Q rest (a.put op.dst (fdA f)) W) : wpList Tryz.prog ops Q (op :: rest) a W := by
  have hu : (Tryz.prog.underlying 113).elim false TypeDesc.isRow = true := by kernel_rfl
  cases h1 : Tryz.prog.underlying 113 with
  | none => rw [h1] at hu; cases hu
  | some d =>
    rw [h1] at hu
    exact wpList_load_mid hgd _ x ho b 0 hx (fdL f) d h h1 hu (by kernel_rfl) hk
theorem storeOpF {ops : Array Oper} {rest : List Oper} {op : Oper} {a : Act} {W : World} {Q : Exit → Act → World → Prop} {b : Nat} {f : Fd} (h : W.there b 0 10) (hgd : op.guard = none) (x y : Operand) (ho : op.op = .store 113 x y)
    (hx : a.eval x = .pointer (some ⟨b, 0, none⟩)) (hy : a.eval y = fdA f) (hk : wpList Tryz.prog ops Q rest (a.put op.dst undef) (W.setCells b 0 (fdL f))) : wpList Tryz.prog ops Q (op :: rest) a W :=
  wpList_store_mid hgd _ x y ho b 0 (fdL f).toArray hx hy h (by kernel_rfl) (fdL_one f) hk
end Go.Proofs.YtngamlikhgilhaaGreatDoor
/- Contract: the reference's next. -/
namespace Go.Proofs.YtngamlikhgilhaaGreatDoor
open Go.RowKit

theorem resF {w : World} {b : Nat} {f : Fd} {a : Act} (ha : a.tmps[4]?.getD undef = .pointer (some ⟨b, 0, none⟩)) (h : w.rangeAt b 0 (fdL f)) : (results Tryz.f101 a.tmps).run Tryz.prog w = .ok (fdA f) w := by
  have h1 := loadF h
  simp [results, Tryz.results101, asAddr, ha, h1]
/-- A bit, and what it says (kept from the walk's eyes). -/
def TB (v : Value) (b : Bool) : Prop := ∃ q : Bool, v = .bool q ∧ Hid (q = b)
set_option maxHeartbeats 2000000 in
set_option maxRecDepth 100000 in
theorem rnext_any (f : Fd) (x : ByteArray) (w : World) (hs : x.size ≤ 9223372036854775806) : Calls Tryz.prog 101 #[fdA f, .string x] w fun e w' => e = .returned (fdA (nextF f x)) ∧ Below w.heap.size w w' := by
  obtain ⟨ht, hd, hm, hy, y, m, d, h, n, s⟩ := f
  rw [show fdA ⟨ht, hd, hm, hy, y, m, d, h, n, s⟩ = .agg #[.bool ht, .bool hd, .bool hm, .bool hy, .int .i64 y, .int .i64 m, .int .i64 d, .int .i64 h, .int .i64 n, .int .i64 s] from rfl]
  go_enter Tryz.func101, Tryz.ntmps101
  go_upto_region 1 with fail
  have F0 : FF w ((w.alloc (.cells #[.bool ht, .bool hd, .bool hm, .bool hy, .int .i64 y, .int .i64 m, .int .i64 d, .int .i64 h, .int .i64 n, .int .i64 s] 113)).alloc (.cells #[.bool false, .bool false, .bool false, .bool false, .int .i64 0, .int .i64 0, .int .i64 0, .int .i64 0, .int .i64 0, .int .i64 0] 113)) ⟨ht, hd, hm, hy, y, m, d, h, n, s⟩ := FF.new w ⟨ht, hd, hm, hy, y, m, d, h, n, s⟩ ⟨false, false, false, false, 0, 0, 0, 0, 0, 0⟩ _
  generalize hW : (w.alloc (.cells #[.bool ht, .bool hd, .bool hm, .bool hy, .int .i64 y, .int .i64 m, .int .i64 d, .int .i64 h, .int .i64 n, .int .i64 s] 113)).alloc (.cells #[.bool false, .bool false, .bool false, .bool false, .int .i64 0, .int .i64 0, .int .i64 0, .int .i64 0, .int .i64 0, .int .i64 0] 113) = W0 at *
  clear hW
  have hnx := ndig_le x
  go_cut [5, 6] (fun s5 s6 wx => TB s6 (timeB x) ∧ (timeB x = true → ∃ b cp, s5 = .slice (some ⟨b, 0, none⟩) 3 cp ∧ 3 ≤ cp ∧ w.heap.size + 2 ≤ b ∧ wx.cell? ⟨b, 0, none⟩ = some (.int .i64 (numV x)) ∧ wx.cell? ⟨b, 1, none⟩ = some (.int .i64 (numV (time2 x))) ∧ wx.cell? ⟨b, 2, none⟩ = some (.int .i64 (numV (time2 (time2 x))))) ∧ FF w wx ⟨ht, hd, hm, hy, y, m, d, h, n, s⟩)
  case first =>
    go_wp2_with fail
    refine (rtime_any x _ hs).mono ?_
    have hz := F0.sz
    rintro e w1 (⟨htb, b, cp, rfl, hcp, hb0, hb1, q0, q1, q2, hB⟩ | ⟨htb, rfl, hB⟩)
    · go_wp2_with fail
      go_meet
      case rel => exact ⟨⟨true, rfl, Lib.hid htb.symm⟩, fun _ => ⟨b, cp, rfl, hcp, by omega, q0, q1, q2⟩, F0.keep hB⟩
    · go_wp2_with fail
      go_meet
      case rel => exact ⟨⟨false, rfl, Lib.hid htb.symm⟩, fun h9 => (by rw [htb] at h9; cases h9), F0.keep hB⟩
  case rest =>
    clear F0
    obtain ⟨⟨tb, rfl, htb⟩, HT, F1⟩ := hcut
    go_upto_region 2 with fail
    go_cut [18] (fun sx wz => TB sx (!ht && timeB x) ∧ wz = wc)
    case first =>
      obtain ⟨c0, -⟩ := range_at F1.rd
      dsimp only at c0
      cases ht <;> cases tb
      all_goals
        go_wp2_with fail
        go_meet
        case rel => exact ⟨⟨_, rfl, Lib.hid (by rw [← htb.out]; rfl)⟩, rfl⟩
    case rest =>
      obtain ⟨⟨q, rfl, hq⟩, rfl⟩ := hcut
      go_upto_if 18 with fail
      go_cut [] (fun wz => wz = wc ∧ Hid (¬ (ht = false ∧ timeB x = true)))
      case first =>
        cases q
        case' false =>
          go_wp2_with fail
          go_meet
          case rel => exact ⟨rfl, Lib.hid (fun h9 => by have h8 := hq.out; rw [h9.1, h9.2] at h8; cases h8)⟩
        case' true =>
          have hq' := hq.out
          obtain rfl : ht = false := by cases ht <;> first | rfl | cases hq'
          rw [Bool.not_false, Bool.true_and] at hq'
          have hv := hq'.symm
          clear hq hq'
          obtain ⟨f0, f1, f2, f3, f4, f5, f6, f7, f8, f9⟩ := there_at F1.wr
          obtain ⟨c0, c1, c2, c3, c4, c5, c6, c7, c8, c9⟩ := range_at F1.rd
          have HN : Hid (nextF ⟨false, hd, hm, hy, y, m, d, h, n, s⟩ x = ⟨true, hd, hm, hy, y, m, d, numV x, numV (time2 x), numV (time2 (time2 x))⟩) := Lib.hid (next_0 ⟨rfl, hv⟩)
          obtain ⟨b, cp, rfl, hcp, hb, q0, q1, q2⟩ := HT hv
          have hcp3 : (3 : Int) ≤ cp := by omega
          have n1 : b ≠ w.heap.size := by omega
          clear hv
          generalize numV x = a0 at *
          generalize numV (time2 x) = a1 at *
          generalize numV (time2 (time2 x)) = a2 at *
          go_upto_region 7 with fail
          have F2 := (((F1.set (g := ⟨true, hd, hm, hy, y, m, d, h, n, s⟩) 0 (.bool true) rfl).set (g := ⟨true, hd, hm, hy, y, m, d, a0, n, s⟩) 7 (.int .i64 a0) rfl).set (g := ⟨true, hd, hm, hy, y, m, d, a0, a1, s⟩) 8 (.int .i64 a1) rfl).set (g := ⟨true, hd, hm, hy, y, m, d, a0, a1, a2⟩) 9 (.int .i64 a2) rfl
          refine wp_region_lit ?_
          refine loadOpF F2.rd rfl _ rfl rfl ?_
          refine storeOpF F2.res rfl _ _ rfl rfl rfl ?_
          go_wp2_with fail
          rw [HN.out]
          refine bodyPost_ret (v := fdA ⟨true, hd, hm, hy, y, m, d, a0, a1, a2⟩) (resF rfl (World.rangeAt_setCells_same _ _ _ _ F2.res)) rfl ⟨rfl, Below.setCells (by omega) _ _ _ F2.bel⟩
      case rest =>
        obtain ⟨rfl, H0⟩ := hcut
        clear hq HT
        go_wp2_with fail
        refine (rdigs_any x _ (by omega)).mono ?_
        rintro e w2 ⟨rfl, rfl⟩
        go_upto_region 9 with fail
        go_cut [48] (fun sx wz => TB sx (!hd && oneTwo x) ∧ wz = wc)
        case first =>
          obtain ⟨-, c1, -⟩ := range_at F1.rd
          dsimp only at c1
          have e1 : oneTwo x = (decide ((1:Int) ≤ (ndig x : Int)) && decide ((ndig x : Int) ≤ 2)) := by unfold oneTwo; congr 1 <;> (rw [Bool.eq_iff_iff]; simp only [decide_eq_true_eq]; omega)
          cases hd
          case' false =>
            cases k1 : decide ((1:Int) ≤ (ndig x : Int))
            case' true => cases k2 : decide ((ndig x : Int) ≤ 2)
          all_goals
            go_wp2_with fail
            go_meet
            case rel => exact ⟨⟨_, rfl, Lib.hid (by (try rw [e1, k1]) <;> (try rw [k2]) <;> rfl)⟩, rfl⟩
        case rest =>
          obtain ⟨⟨q, rfl, hq⟩, rfl⟩ := hcut
          go_upto_if 48 with fail
          go_cut [] (fun wz => wz = wc ∧ Hid (¬ (hd = false ∧ oneTwo x = true)))
          case first =>
            cases q
            case' false =>
              go_wp2_with fail
              go_meet
              case rel => exact ⟨rfl, Lib.hid (fun h9 => by have h8 := hq.out; rw [h9.1, h9.2] at h8; cases h8)⟩
            case' true =>
              have hq' := hq.out
              obtain rfl : hd = false := by cases hd <;> first | rfl | cases hq'
              rw [Bool.not_false, Bool.true_and] at hq'
              have hv := hq'.symm
              clear hq hq'
              obtain ⟨f0, f1, f2, f3, f4, f5, f6, f7, f8, f9⟩ := there_at F1.wr
              obtain ⟨c0, c1, c2, c3, c4, c5, c6, c7, c8, c9⟩ := range_at F1.rd
              have HN : Hid (nextF ⟨ht, false, hm, hy, y, m, d, h, n, s⟩ x = ⟨ht, true, hm, hy, y, m, numV x, h, n, s⟩) := Lib.hid (next_1 H0.out ⟨rfl, hv⟩)
              have hr := (oneTwo_iff x).1 hv
              have HU := Lib.hid (unfV_some (unf_num x hr.1 (by omega)))
              have hez : (x.extract 0 (ndig x)).size ≤ 9223372036854775807 := by rw [ByteArray.size_extract]; omega
              clear hv H0
              generalize numV x = a0 at *
              go_wp2_with fail
              refine (runfixed_any (x.extract 0 (ndig x)) _ hez).mono ?_
              rintro e w2 ⟨rfl, rfl⟩
              rw [HU.out]
              go_upto_region 12 with fail
              have F2 := (F1.set (g := ⟨ht, true, hm, hy, y, m, d, h, n, s⟩) 1 (.bool true) rfl).set (g := ⟨ht, true, hm, hy, y, m, a0, h, n, s⟩) 6 (.int .i64 a0) rfl
              refine wp_region_lit ?_
              refine loadOpF F2.rd rfl _ rfl rfl ?_
              refine storeOpF F2.res rfl _ _ rfl rfl rfl ?_
              go_wp2_with fail
              rw [HN.out]
              refine bodyPost_ret (v := fdA ⟨ht, true, hm, hy, y, m, a0, h, n, s⟩) (resF rfl (World.rangeAt_setCells_same _ _ _ _ F2.res)) rfl ⟨rfl, Below.setCells (by omega) _ _ _ F2.bel⟩
          case rest =>
            obtain ⟨rfl, H1⟩ := hcut
            clear hq
            go_upto_region 13 with fail
            go_cut [67] (fun sx wz => TB sx (!hm && decide (0 < monthN x)) ∧ FF w wz ⟨ht, hd, hm, hy, y, m, d, h, n, s⟩)
            case first =>
              obtain ⟨-, -, c2, -⟩ := range_at F1.rd
              dsimp only at c2
              cases hm
              case' false =>
                go_wp2_with fail
                refine (rmonth_any x _ (by omega)).mono ?_
                rintro e w2 ⟨rfl, hb2⟩
                have F2 := F1.keep hb2
                have e1 : decide (0 < monthN x) = decide ((monthN x : Int) > 0) := by rw [Bool.eq_iff_iff]; simp only [decide_eq_true_eq]; omega
                cases k1 : decide ((monthN x : Int) > 0)
                all_goals
                  go_wp2_with fail
                  go_meet
                  case rel => exact ⟨⟨_, rfl, Lib.hid (by rw [e1, k1]; rfl)⟩, F2⟩
              case' true =>
                go_wp2_with fail
                go_meet
                case rel => exact ⟨⟨_, rfl, Lib.hid rfl⟩, F1⟩
            case rest =>
              clear F1
              obtain ⟨⟨q, rfl, hq⟩, F1⟩ := hcut
              go_upto_if 67 with fail
              go_cut [] (fun wz => wz = wc ∧ Hid (¬ (hm = false ∧ 0 < monthN x)))
              case first =>
                cases q
                case' false =>
                  go_wp2_with fail
                  go_meet
                  case rel => exact ⟨rfl, Lib.hid (fun h9 => by have h8 := hq.out; rw [h9.1, decide_eq_true h9.2] at h8; cases h8)⟩
                case' true =>
                  have hq' := hq.out
                  obtain rfl : hm = false := by cases hm <;> first | rfl | cases hq'
                  rw [Bool.not_false, Bool.true_and] at hq'
                  have hv := of_decide_eq_true hq'.symm
                  clear hq hq'
                  have HN : Hid (nextF ⟨ht, hd, false, hy, y, m, d, h, n, s⟩ x = ⟨ht, hd, true, hy, y, monthN x, d, h, n, s⟩) := Lib.hid (next_2 H0.out H1.out ⟨rfl, hv⟩)
                  clear hv H0 H1
                  obtain ⟨f0, f1, f2, f3, f4, f5, f6, f7, f8, f9⟩ := there_at F1.wr
                  obtain ⟨c0, c1, c2, c3, c4, c5, c6, c7, c8, c9⟩ := range_at F1.rd
                  go_upto_region 15 with fail
                  have F2 := F1.set (g := ⟨ht, hd, true, hy, y, m, d, h, n, s⟩) 2 (.bool true) rfl
                  generalize (wc.setCell ⟨w.heap.size, 2, none⟩ (.bool true)) = w3 at *
                  clear f0 f1 f2 f3 f4 f5 f6 f7 f8 f9 c0 c1 c2 c3 c4 c5 c6 c7 c8 c9
                  go_wp2_with fail
                  refine (rmonth_any x _ (by omega)).mono ?_
                  rintro e w2 ⟨rfl, hb2⟩
                  have F3 := F2.keep hb2
                  obtain ⟨f0, f1, f2, f3, f4, f5, f6, f7, f8, f9⟩ := there_at F3.wr
                  obtain ⟨c0, c1, c2, c3, c4, c5, c6, c7, c8, c9⟩ := range_at F3.rd
                  generalize monthN x = a0 at *
                  go_upto_region 16 with fail
                  have F2 := F3.set (g := ⟨ht, hd, true, hy, y, a0, d, h, n, s⟩) 5 (.int .i64 a0) rfl
                  refine wp_region_lit ?_
                  refine loadOpF F2.rd rfl _ rfl rfl ?_
                  refine storeOpF F2.res rfl _ _ rfl rfl rfl ?_
                  go_wp2_with fail
                  rw [HN.out]
                  refine bodyPost_ret (v := fdA ⟨ht, hd, true, hy, y, a0, d, h, n, s⟩) (resF rfl (World.rangeAt_setCells_same _ _ _ _ F2.res)) rfl ⟨rfl, Below.setCells (by omega) _ _ _ F2.bel⟩
              case rest =>
                obtain ⟨rfl, H2⟩ := hcut
                clear hq
                go_upto_region 17 with fail
                go_cut [84] (fun sx wz => TB sx (!hy && twoFour x) ∧ wz = wc)
                case first =>
                  obtain ⟨-, -, -, c3, -⟩ := range_at F1.rd
                  dsimp only at c3
                  have e1 : twoFour x = (decide ((2:Int) ≤ (ndig x : Int)) && decide ((ndig x : Int) ≤ 4)) := by unfold twoFour; congr 1 <;> (rw [Bool.eq_iff_iff]; simp only [decide_eq_true_eq]; omega)
                  cases hy
                  case' false =>
                    cases k1 : decide ((2:Int) ≤ (ndig x : Int))
                    case' true => cases k2 : decide ((ndig x : Int) ≤ 4)
                  all_goals
                    go_wp2_with fail
                    go_meet
                    case rel => exact ⟨⟨_, rfl, Lib.hid (by (try rw [e1, k1]) <;> (try rw [k2]) <;> rfl)⟩, rfl⟩
                case rest =>
                  obtain ⟨⟨q, rfl, hq⟩, rfl⟩ := hcut
                  cases q
                  case' false =>
                    have HN : Hid (nextF ⟨ht, hd, hm, hy, y, m, d, h, n, s⟩ x = ⟨ht, hd, hm, hy, y, m, d, h, n, s⟩) := Lib.hid (next_4 H0.out H1.out H2.out (fun h9 => by have h8 := hq.out; have h7 : hy = false := h9.1; have h6 : twoFour x = true := h9.2; rw [h7, h6] at h8; cases h8))
                    go_upto_region 20 with fail
                    have F2 := F1
                    refine wp_region_lit ?_
                    refine loadOpF F2.rd rfl _ rfl rfl ?_
                    refine storeOpF F2.res rfl _ _ rfl rfl rfl ?_
                    go_wp2_with fail
                    rw [HN.out]
                    refine bodyPost_ret (v := fdA ⟨ht, hd, hm, hy, y, m, d, h, n, s⟩) (resF rfl (World.rangeAt_setCells_same _ _ _ _ F2.res)) rfl ⟨rfl, Below.setCells (by omega) _ _ _ F2.bel⟩
                  case' true =>
                    have hq' := hq.out
                    obtain rfl : hy = false := by cases hy <;> first | rfl | cases hq'
                    rw [Bool.not_false, Bool.true_and] at hq'
                    have hv := hq'.symm
                    clear hq hq'
                    obtain ⟨f0, f1, f2, f3, f4, f5, f6, f7, f8, f9⟩ := there_at F1.wr
                    obtain ⟨c0, c1, c2, c3, c4, c5, c6, c7, c8, c9⟩ := range_at F1.rd
                    have HN : Hid (nextF ⟨ht, hd, hm, false, y, m, d, h, n, s⟩ x = ⟨ht, hd, hm, true, numV x, m, d, h, n, s⟩) := Lib.hid (next_3 H0.out H1.out H2.out ⟨rfl, hv⟩)
                    have hr := (twoFour_iff x).1 hv
                    have HU := Lib.hid (unfV_some (unf_num x (by omega) (by omega)))
                    have hez : (x.extract 0 (ndig x)).size ≤ 9223372036854775807 := by rw [ByteArray.size_extract]; omega
                    clear hv H0 H1 H2
                    generalize numV x = a0 at *
                    go_wp2_with fail
                    refine (runfixed_any (x.extract 0 (ndig x)) _ hez).mono ?_
                    rintro e w2 ⟨rfl, rfl⟩
                    rw [HU.out]
                    go_upto_region 20 with fail
                    have F2 := (F1.set (g := ⟨ht, hd, hm, true, y, m, d, h, n, s⟩) 3 (.bool true) rfl).set (g := ⟨ht, hd, hm, true, a0, m, d, h, n, s⟩) 4 (.int .i64 a0) rfl
                    refine wp_region_lit ?_
                    refine loadOpF F2.rd rfl _ rfl rfl ?_
                    refine storeOpF F2.res rfl _ _ rfl rfl rfl ?_
                    go_wp2_with fail
                    rw [HN.out]
                    refine bodyPost_ret (v := fdA ⟨ht, hd, hm, true, a0, m, d, h, n, s⟩) (resF rfl (World.rangeAt_setCells_same _ _ _ _ F2.res)) rfl ⟨rfl, Below.setCells (by omega) _ _ _ F2.bel⟩
end Go.Proofs.YtngamlikhgilhaaGreatDoor
/- What the reference's Cookie holds between two words; how many words a text has, and how long they are. -/
namespace Go.Proofs.YtngamlikhgilhaaGreatDoor
open Go.RowKit

theorem wordsA_len : ∀ (l cur : List UInt8), (wordsA cur l).length ≤ l.length + 1 ∧ ∀ x ∈ wordsA cur l, x.length ≤ cur.length + l.length
  | [], cur => by
    unfold wordsA
    split
    · exact ⟨by simp, by simp⟩
    · exact ⟨by simp, by simp⟩
  | c :: l, cur => by
    have h1 := wordsA_len l []
    have h2 := wordsA_len l (cur ++ [c])
    unfold wordsA
    split
    · split
      · exact ⟨by simp only [List.length_cons]; omega, fun x hx => by have := h1.2 x hx; simp only [List.length_cons, List.length_nil] at *; omega⟩
      · refine ⟨by simp only [List.length_cons]; omega, fun x hx => ?_⟩
        rcases List.mem_cons.1 hx with rfl | hx
        · simp only [List.length_cons]; omega
        · have := h1.2 x hx
          simp only [List.length_cons, List.length_nil] at *
          omega
    · refine ⟨by simp only [List.length_cons]; omega, fun x hx => ?_⟩
      have := h2.2 x hx
      simp only [List.length_append, List.length_cons, List.length_nil] at *
      omega
theorem words_len (s : ByteArray) : (wordsS s).length ≤ s.size + 1 ∧ ∀ x ∈ wordsS s, x.size ≤ s.size := by
  have h := wordsA_len (bs s) []
  unfold wordsS
  refine ⟨by rw [List.length_map, size_bs]; exact h.1, fun x hx => ?_⟩
  obtain ⟨y, hy, rfl⟩ := List.mem_map.1 hx
  have := h.2 y hy
  rw [size_bs, bs_mk, size_bs]
  simpa using this
theorem RT.keep {B : Nat} {w w' : World} {v : Value} {q : List ByteArray} (h : RT B w v q) (hb : Below w.heap.size w w') : RT B w' v q := by
  obtain ⟨a, cp, rfl, hc, h⟩ := h
  refine ⟨a, cp, rfl, hc, ?_⟩
  rcases h with h | ⟨b, rfl, hB, h⟩
  · exact .inl h
  · exact .inr ⟨b, rfl, hB, fun i hi => (hb.cell (p := ⟨b, i, none⟩) (cell_ltD (h i hi))).trans (h i hi)⟩
theorem RT.sets {B b' o : Nat} {w : World} {v : Value} {q : List ByteArray} (h : RT B w v q) (hb : b' < B) (vs : List Value) : RT B (w.setCells b' o vs) v q := by
  obtain ⟨a, cp, rfl, hc, h⟩ := h
  refine ⟨a, cp, rfl, hc, ?_⟩
  rcases h with h | ⟨b, rfl, hB, h⟩
  · exact .inl h
  · refine .inr ⟨b, rfl, hB, fun i hi => ?_⟩
    rw [World.cell?_setCells_out b' vs o w ⟨b, i, none⟩ (fun h9 _ => by exfalso; have h8 : b = b' := h9; omega)]
    exact h i hi
theorem size_setCells (b : Nat) : ∀ (vs : List Value) (o : Nat) (w : World), (w.setCells b o vs).heap.size = w.heap.size
  | [], _, _ => rfl
  | v :: r, o, w => by rw [World.setCells, size_setCells b r, World.size_setCell]
/-- The struct's cells, and the words' row, behind k words. -/
structure CK (w W : World) (v : Value) (q : List ByteArray) (k : Nat) : Prop where
  rd : W.rangeAt w.heap.size 0 (fdL (foundL (q.take k)))
  wr : W.there w.heap.size 0 10
  row : RT (w.heap.size + 1) W v q
  bel : Below w.heap.size w W
  sz : w.heap.size + 1 ≤ W.heap.size
theorem CK.keep {w W W' : World} {v : Value} {q : List ByteArray} {k : Nat} (h : CK w W v q k) (hb : Below W.heap.size W W') : CK w W' v q k := by
  have := h.sz
  exact ⟨range_keep h.rd hb (by omega), there_keep h.wr hb (by omega), h.row.keep hb, Bsnoc h.bel hb, Nat.le_trans h.sz hb.size⟩
theorem CK.next {w W : World} {v : Value} {q : List ByteArray} {k : Nat} (h : CK w W v q k) (hk : k < q.length) : CK w (W.setCells w.heap.size 0 (fdL (nextF (foundL (q.take k)) q[k]))) v q (k + 1) := by
  refine ⟨?_, World.there_setCells h.wr _ _ _, h.row.sets (by omega) _, Below.setCells (Nat.le_refl _) _ _ _ h.bel, by rw [size_setCells]; exact h.sz⟩
  rw [List.take_add_one, List.getElem?_eq_getElem hk, Option.toList_some, foundL_snoc]
  exact World.rangeAt_setCells_same _ _ _ _ h.wr
theorem CK.at {w W : World} {v : Value} {q : List ByteArray} {k : Nat} (h : CK w W v q k) (hk : k < q.length) : ∃ b cp, v = .slice (some ⟨b, 0, none⟩) q.length cp ∧ q.length ≤ cp ∧ w.heap.size + 1 ≤ b ∧ W.cell? ⟨b, k, none⟩ = some (.string q[k]) := by
  obtain ⟨a, cp, rfl, hc, h⟩ := h.row
  rcases h with rfl | ⟨b, rfl, hB, h⟩
  · cases hk
  · exact ⟨b, cp, rfl, hc, hB, h k hk⟩
theorem still_load {ops : Array Oper} {rest : List Oper} {op : Oper} {a : Act} {W : World} {Q : Act → Prop} {b : Nat} {f : Fd} (h : W.rangeAt b 0 (fdL f)) (hw : ∀ y, Region.wanted op y = true) (x : Operand) (ho : op.op = .load 113 x)
    (hx : a.eval x = .pointer (some ⟨b, 0, none⟩)) (hk : wpStill Tryz.prog ops W Q rest (a.put op.dst (fdA f))) : wpStill Tryz.prog ops W Q (op :: rest) a := by
  rw [wpStill, if_pos (hw _)]
  unfold Oper.still execOp
  simp only [ho, hx, Instr.loadAt, Instr.sureAddr, Sem.run_bind, Sem.run_pure, Result.andThen_ok, loadF h]
  exact ⟨rfl, hk⟩
end Go.Proofs.YtngamlikhgilhaaGreatDoor
/- Contract: the reference's Cookie. -/
namespace Go.Proofs.YtngamlikhgilhaaGreatDoor
open Go.RowKit

set_option maxHeartbeats 2000000 in
set_option maxRecDepth 100000 in
theorem rcookie_any (s : ByteArray) (w : World) (hs : s.size ≤ 1000) : Calls Tryz.prog 62 #[.string s] w fun e w' => e = .returned (cookieV s) ∧ Below w.heap.size w w' := by
  obtain ⟨hl1, hl2⟩ := words_len s
  have HV := Lib.hid (show cookieV s = fdV (foundL (wordsS s)) from rfl)
  go_enter Tryz.func62, Tryz.ntmps62
  go_wp2_with fail
  refine (rwords_any s _ hs).mono ?_
  rintro e w1 ⟨v, rfl, hb1, hrow⟩
  have K0 : CK w w1 v (wordsS s) 0 := by
    have b0 := (Below.refl w.heap.size w).alloc (Nat.le_refl _) (.cells (fdL f0).toArray 113)
    rw [World.size_alloc] at hrow
    exact ⟨range_keep (range_new w (fdL f0) _) hb1 (by simp), there_keep (there_new w (fdL f0) _) hb1 (by simp), hrow, Bsnoc b0 hb1, by have := hb1.size; simp at this; exact this⟩
  generalize wordsS s = q at *
  clear hb1 hrow
  go_wp2_with fail
  go_loopw [6] (fun i wr => ∃ k : Nat, k ≤ q.length ∧ i = .int .i64 k ∧ CK w wr v q k) (fun i _ => q.length - (intOf i).toNat)
  case atStart => exact ⟨0, Nat.zero_le _, rfl, K0⟩
  case round =>
    obtain ⟨k, hk, rfl, HK⟩ := hrel
    clear K0
    by_cases hlt : k < q.length
    · obtain ⟨b, cp, rfl, hc, hB, hcell⟩ := HK.at hlt
      have hz := hl2 _ (List.getElem_mem hlt)
      go_upto_region 6 with fail
      refine wp_region_still_tail 5 (by kernel_rfl) (by kernel_rfl) ?_
      simp only [List.take_succ_cons, List.take_zero, List.drop_succ_cons, List.drop_zero]
      have HK2 : CK w { wr with drawn := wr.drawn + 1 } (.slice (some ⟨b, 0, none⟩) q.length cp) q k := ⟨HK.rd, HK.wr, HK.row, Below.drew HK.bel, HK.sz⟩
      refine still_load HK2.rd (fun _ => rfl) _ rfl rfl ?_
      repeat still_step
      refine wpStill_nil ?_
      generalize ({ heap := wr.heap, tape := wr.tape, drawn := wr.drawn + 1, os := wr.os, output := wr.output } : World) = wd at *
      refine wpList_plain rfl (fun K hK => ?_)
      go_simp
      go_at_call 101
      refine (rnext_any (foundL (q.take k)) q[k] _ (by omega)).mono ?_
      rintro e w2 ⟨rfl, hb2⟩
      refine hK _ _ ?_
      have HK3 := HK2.keep hb2
      refine storeOpF HK3.wr rfl _ _ rfl rfl rfl ?_
      have HK4 := HK3.next hlt
      go_wp2_with fail
      go_round
      case rel => exact ⟨k + 1, by omega, by go_num, HK4⟩
      case measure => simp [intOf]; omega
    · obtain rfl : k = q.length := by omega
      have hwalk : ∃ B cp, v = .slice B q.length cp ∧ q.length ≤ cp := by obtain ⟨a, cp, rfl, hc, -⟩ := HK.row; exact ⟨a, cp, rfl, hc⟩
      obtain ⟨B, cp, rfl, hc⟩ := hwalk
      have hrd := HK.rd
      have hwr := HK.wr
      have HB := Lib.hid HK.bel
      rw [List.take_length] at hrd
      clear HK hl2
      have hok := foundL_ok q
      generalize foundL q = f at *
      obtain ⟨ht, hd, hm, hy, y, m, d, h, n, x⟩ := f
      obtain ⟨c0, c1, c2, c3, c4, c5, c6, c7, c8, c9⟩ := range_at hrd
      dsimp only at c0 c1 c2 c3 c4 c5 c6 c7 c8 c9
      have f4 := (there_at hwr).2.2.2.2.1
      clear hrd hwr
      cases hall : Fd.allB ⟨ht, hd, hm, hy, y, m, d, h, n, x⟩
      · have HR := Lib.hid (show cookieV s = .tuple #[.int .i64 0, .bool false] by rw [HV.out]; unfold fdV; rw [if_neg (by rw [hall]; simp)])
        unfold Fd.allB at hall
        dsimp only at hall
        clear HV
        cases ht
        case' false =>
          clear hall
          go_wp2_with fail
          go_ret2
          exact ⟨by rw [HR.out]; rfl, HB.out⟩
        cases hd
        case' false =>
          clear hall
          go_wp2_with fail
          go_ret2
          exact ⟨by rw [HR.out]; rfl, HB.out⟩
        cases hm
        case' false =>
          clear hall
          go_wp2_with fail
          go_ret2
          exact ⟨by rw [HR.out]; rfl, HB.out⟩
        cases hy
        case' false => clear hall
        case' true => cases hall
        go_wp2_with fail
        go_ret2
        exact ⟨by rw [HR.out]; rfl, HB.out⟩
      · have hfl : ht = true ∧ hd = true ∧ hm = true ∧ hy = true := by
          unfold Fd.allB at hall
          dsimp only at hall
          cases ht <;> cases hd <;> cases hm <;> cases hy <;> first | exact ⟨rfl, rfl, rfl, rfl⟩ | cases hall
        obtain ⟨rfl, rfl, rfl, rfl⟩ := hfl
        obtain ⟨hy0, hy1, -, -⟩ := hok
        dsimp only at hy0 hy1
        by_cases h70 : 70 ≤ y
        · by_cases h99 : y ≤ 99
          · have HCE := Lib.hid (show cent y = y + 1900 from by unfold cent; rw [if_pos ⟨h70, h99⟩])
            have g6 : ¬ (y + 1900 ≤ 69) := by omega
            have hlow : ¬ (y + 1900 < 1601) := by omega
            · by_cases hv : vclk (y + 1900) m d h n x
              · have HR := Lib.hid (show cookieV s = .tuple #[.int .i64 (secs (y + 1900) m d h n x), .bool true] by rw [HV.out]; unfold fdV; rw [HCE.out, if_pos ⟨hall, by omega, hv⟩])
                have HVC := Lib.hid hv
                clear HV HCE hall hv
                go_wp2_with fail
                refine (repoch_yes (y + 1900) m d h n x _ HVC.out).mono ?_
                rintro e w3 ⟨rfl, hb3⟩
                go_wp2_with fail
                go_ret2
                exact ⟨by rw [HR.out]; rfl, Bsnoc (HB.out.setCell (Nat.le_refl _) (.int .i64 (y + 1900))) hb3⟩
              · have HR := Lib.hid (show cookieV s = .tuple #[.int .i64 0, .bool false] by rw [HV.out]; unfold fdV; rw [HCE.out, if_neg (fun h => hv h.2.2)])
                have HVC := Lib.hid hv
                clear HV HCE hall hv
                go_wp2_with fail
                refine (repoch_no (y + 1900) m d h n x _ HVC.out).mono ?_
                rintro e w3 ⟨rfl, hb3⟩
                go_wp2_with fail
                go_ret2
                exact ⟨by rw [HR.out]; rfl, Bsnoc (HB.out.setCell (Nat.le_refl _) (.int .i64 (y + 1900))) hb3⟩
          · have HCE := Lib.hid (show cent y = y from by unfold cent; rw [if_neg (by omega), if_neg (by omega)])
            have g6 : ¬ (y ≤ 69) := by omega
            by_cases hlow : y < 1601
            · have HR := Lib.hid (show cookieV s = .tuple #[.int .i64 0, .bool false] by rw [HV.out]; unfold fdV; rw [HCE.out, if_neg (fun h => by have := h.2.1; omega)])
              clear HV HCE hall
              go_wp2_with fail
              go_ret2
              exact ⟨by rw [HR.out]; rfl, HB.out⟩
            · by_cases hv : vclk (y) m d h n x
              · have HR := Lib.hid (show cookieV s = .tuple #[.int .i64 (secs (y) m d h n x), .bool true] by rw [HV.out]; unfold fdV; rw [HCE.out, if_pos ⟨hall, by omega, hv⟩])
                have HVC := Lib.hid hv
                clear HV HCE hall hv
                go_wp2_with fail
                refine (repoch_yes (y) m d h n x _ HVC.out).mono ?_
                rintro e w3 ⟨rfl, hb3⟩
                go_wp2_with fail
                go_ret2
                exact ⟨by rw [HR.out]; rfl, Bsnoc HB.out hb3⟩
              · have HR := Lib.hid (show cookieV s = .tuple #[.int .i64 0, .bool false] by rw [HV.out]; unfold fdV; rw [HCE.out, if_neg (fun h => hv h.2.2)])
                have HVC := Lib.hid hv
                clear HV HCE hall hv
                go_wp2_with fail
                refine (repoch_no (y) m d h n x _ HVC.out).mono ?_
                rintro e w3 ⟨rfl, hb3⟩
                go_wp2_with fail
                go_ret2
                exact ⟨by rw [HR.out]; rfl, Bsnoc HB.out hb3⟩
        · have HCE := Lib.hid (show cent y = y + 2000 from by unfold cent; rw [if_neg (by omega), if_pos (by omega)])
          have g6 : y ≤ 69 := by omega
          have hlow : ¬ (y + 2000 < 1601) := by omega
          · by_cases hv : vclk (y + 2000) m d h n x
            · have HR := Lib.hid (show cookieV s = .tuple #[.int .i64 (secs (y + 2000) m d h n x), .bool true] by rw [HV.out]; unfold fdV; rw [HCE.out, if_pos ⟨hall, by omega, hv⟩])
              have HVC := Lib.hid hv
              clear HV HCE hall hv
              go_wp2_with fail
              refine (repoch_yes (y + 2000) m d h n x _ HVC.out).mono ?_
              rintro e w3 ⟨rfl, hb3⟩
              go_wp2_with fail
              go_ret2
              exact ⟨by rw [HR.out]; rfl, Bsnoc (HB.out.setCell (Nat.le_refl _) (.int .i64 (y + 2000))) hb3⟩
            · have HR := Lib.hid (show cookieV s = .tuple #[.int .i64 0, .bool false] by rw [HV.out]; unfold fdV; rw [HCE.out, if_neg (fun h => hv h.2.2)])
              have HVC := Lib.hid hv
              clear HV HCE hall hv
              go_wp2_with fail
              refine (repoch_no (y + 2000) m d h n x _ HVC.out).mono ?_
              rintro e w3 ⟨rfl, hb3⟩
              go_wp2_with fail
              go_ret2
              exact ⟨by rw [HR.out]; rfl, Bsnoc (HB.out.setCell (Nat.le_refl _) (.int .i64 (y + 2000))) hb3⟩
end Go.Proofs.YtngamlikhgilhaaGreatDoor
