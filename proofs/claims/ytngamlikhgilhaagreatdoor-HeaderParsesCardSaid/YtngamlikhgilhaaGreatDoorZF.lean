/- The contract of date.Cookie. -/
import Derived.Test.YtngamlikhgilhaaGreatDoorZE
import Derived.Laws.EntriesVeiled
import Derived.Shelf.Abstract
namespace Go.Proofs.YtngamlikhgilhaaGreatDoor
open Go.RowKit Go.Shelf
attribute [local go_sem] Oper.semAt_some

def No0 (f : Fd) (x : ByteArray) : Prop := ¬ (f.ht = false ∧ timeB x = true)
def No1 (f : Fd) (x : ByteArray) : Prop := ¬ (f.hd = false ∧ oneTwo x = true)
def No2 (f : Fd) (x : ByteArray) : Prop := ¬ (f.hm = false ∧ 0 < monthN x)
def No3 (f : Fd) (x : ByteArray) : Prop := ¬ (f.hy = false ∧ twoFour x = true)
theorem keepsBelow {B Bs b : Nat} {W W1 W2 : World} (h : KeepsFrom B W W1 ∧ KpB Bs W W1) (hg : W1.grownBy W2 (some b)) (hb : b < B) (hbs : b ≠ Bs) (hlt : Bs < W1.heap.size) : KeepsFrom B W W2 ∧ KpB Bs W W2 :=
  ⟨h.1.trans (KeepsFrom.of_grownBy hg (fun j e => by cases e; exact hb)), (hg.cell_far ⟨Bs, 0, none⟩ hlt (by show some Bs ≠ some b; intro e; injection e with e; exact hbs e.symm)).trans h.2⟩
theorem eq4 (W : World) (a b c d : Bool) : (Op.equalIn 10000 75 (.agg #[.bool a, .bool b, .bool c, .bool d]) (.agg #[.bool true, .bool true, .bool true, .bool true])).run Tryz.prog W = .ok (a && b && c && d) W := by
  cases a <;> cases b <;> cases c <;> cases d <;> kernel_rfl
theorem pick_0 (W : World) (B : Nat) : (Instr.index 80 (.agg #[.func (.func 47) #[] #[.pointer (some ⟨B, 0, none⟩)], .func (.func 49) #[] #[.pointer (some ⟨B, 0, none⟩)], .func (.func 51) #[] #[.pointer (some ⟨B, 0, none⟩)], .func (.func 53) #[] #[.pointer (some ⟨B, 0, none⟩)]]) (.int .i64 0)).run Tryz.prog W = .ok (.func (.func 47) #[] #[.pointer (some ⟨B, 0, none⟩)]) W := by kernel_rfl
theorem pick_1 (W : World) (B : Nat) : (Instr.index 80 (.agg #[.func (.func 47) #[] #[.pointer (some ⟨B, 0, none⟩)], .func (.func 49) #[] #[.pointer (some ⟨B, 0, none⟩)], .func (.func 51) #[] #[.pointer (some ⟨B, 0, none⟩)], .func (.func 53) #[] #[.pointer (some ⟨B, 0, none⟩)]]) (.int .i64 1)).run Tryz.prog W = .ok (.func (.func 49) #[] #[.pointer (some ⟨B, 0, none⟩)]) W := by kernel_rfl
theorem pick_2 (W : World) (B : Nat) : (Instr.index 80 (.agg #[.func (.func 47) #[] #[.pointer (some ⟨B, 0, none⟩)], .func (.func 49) #[] #[.pointer (some ⟨B, 0, none⟩)], .func (.func 51) #[] #[.pointer (some ⟨B, 0, none⟩)], .func (.func 53) #[] #[.pointer (some ⟨B, 0, none⟩)]]) (.int .i64 2)).run Tryz.prog W = .ok (.func (.func 51) #[] #[.pointer (some ⟨B, 0, none⟩)]) W := by kernel_rfl
theorem pick_3 (W : World) (B : Nat) : (Instr.index 80 (.agg #[.func (.func 47) #[] #[.pointer (some ⟨B, 0, none⟩)], .func (.func 49) #[] #[.pointer (some ⟨B, 0, none⟩)], .func (.func 51) #[] #[.pointer (some ⟨B, 0, none⟩)], .func (.func 53) #[] #[.pointer (some ⟨B, 0, none⟩)]]) (.int .i64 3)).run Tryz.prog W = .ok (.func (.func 53) #[] #[.pointer (some ⟨B, 0, none⟩)]) W := by kernel_rfl
/-- Cookie's memory, before the words. -/
theorem ck_start (w : World) (s : ByteArray) (g : Array Value) (hg : g = #[.func (.func 47) #[] #[.pointer (some ⟨w.heap.size, 0, none⟩)], .func (.func 49) #[] #[.pointer (some ⟨w.heap.size, 0, none⟩)], .func (.func 51) #[] #[.pointer (some ⟨w.heap.size, 0, none⟩)], .func (.func 53) #[] #[.pointer (some ⟨w.heap.size, 0, none⟩)]]) :
    CkAt w ((((w.alloc (.cells #[.int .i64 0, .int .i64 0, .int .i64 0, .int .i64 0, .int .i64 0, .int .i64 0] 74)).alloc (.cells #[.bool false, .bool false, .bool false, .bool false] 75)).alloc (.cells g 80)).alloc (.cells #[.string s] 9)) f0 := by
  subst hg
  have a1 : w.heap.size ≠ w.heap.size + 1 := by omega
  have a2 : w.heap.size ≠ w.heap.size + 1 + 1 := by omega
  have a3 : w.heap.size ≠ w.heap.size + 1 + 1 + 1 := by omega
  have a4 : w.heap.size + 1 ≠ w.heap.size + 1 + 1 := by omega
  have a5 : w.heap.size + 1 ≠ w.heap.size + 1 + 1 + 1 := by omega
  exact ⟨⟨by go_simp; rfl, by go_simp; rfl, by go_simp; rfl, by go_simp; rfl, by go_simp; rfl, by go_simp; rfl, fun o => by go_simp⟩, by go_simp; rfl, by go_simp; rfl, by go_simp; rfl, by go_simp; rfl, fun o => by go_simp, by go_simp, by go_simp, by go_simp, by go_simp,
    ((((Below.refl _ w).alloc (Nat.le_refl _) _).alloc (by simp) _).alloc (by simp; omega) _).alloc (by simp; omega) _, by simp⟩
set_option maxHeartbeats 4000000 in
set_option maxRecDepth 100000 in
theorem cookie_any (s : ByteArray) (w : World) (hs : s.size ≤ 9223372036854775806) : Calls Tryz.prog 20 #[.string s] w fun e w' => e = .returned (cookieV s) ∧ Below w.heap.size w w' := by
  refine (callsIn_wide (n := 9)).1 ?_
  refine callsIn_of_wp_marks Tryz.func20 rfl trivial ?_ rfl
  simp only [Tryz.ntmps20, List.size_toArray, List.length_cons, List.length_nil, Nat.reduceAdd, Nat.reduceSub, Array.replicate_succ, Array.replicate_zero, List.push_toArray, List.append_toArray, List.nil_append, List.cons_append]
  have hro : Fence.wide.round = none := rfl
  gi_wp2_with (refine ⟨trivial, ?_⟩; gi_at_call 54; refine (callsIn_wide.2 (words_any _ _)).mono ?_; rintro e w' ⟨rfl, rfl⟩)
  have hW := ck_start w s _ rfl
  have hBs : ((((w.alloc (.cells #[.int .i64 0, .int .i64 0, .int .i64 0, .int .i64 0, .int .i64 0, .int .i64 0] 74)).alloc (.cells #[.bool false, .bool false, .bool false, .bool false] 75)).alloc (.cells #[.func (.func 47) #[] #[.pointer (some ⟨w.heap.size, 0, none⟩)], .func (.func 49) #[] #[.pointer (some ⟨w.heap.size, 0, none⟩)], .func (.func 51) #[] #[.pointer (some ⟨w.heap.size, 0, none⟩)], .func (.func 53) #[] #[.pointer (some ⟨w.heap.size, 0, none⟩)]] 80)).alloc (.cells #[.string s] 9)).cell? ⟨w.heap.size + 3, 0, none⟩ = some (.string s) := by
    rw [show w.heap.size + 3 = (((w.alloc (.cells #[.int .i64 0, .int .i64 0, .int .i64 0, .int .i64 0, .int .i64 0, .int .i64 0] 74)).alloc (.cells #[.bool false, .bool false, .bool false, .bool false] 75)).alloc (.cells #[.func (.func 47) #[] #[.pointer (some ⟨w.heap.size, 0, none⟩)], .func (.func 49) #[] #[.pointer (some ⟨w.heap.size, 0, none⟩)], .func (.func 51) #[] #[.pointer (some ⟨w.heap.size, 0, none⟩)], .func (.func 53) #[] #[.pointer (some ⟨w.heap.size, 0, none⟩)]] 80)).heap.size by simp, World.cell?_alloc_new]
    rfl
  have hsz : ((((w.alloc (.cells #[.int .i64 0, .int .i64 0, .int .i64 0, .int .i64 0, .int .i64 0, .int .i64 0] 74)).alloc (.cells #[.bool false, .bool false, .bool false, .bool false] 75)).alloc (.cells #[.func (.func 47) #[] #[.pointer (some ⟨w.heap.size, 0, none⟩)], .func (.func 49) #[] #[.pointer (some ⟨w.heap.size, 0, none⟩)], .func (.func 51) #[] #[.pointer (some ⟨w.heap.size, 0, none⟩)], .func (.func 53) #[] #[.pointer (some ⟨w.heap.size, 0, none⟩)]] 80)).alloc (.cells #[.string s] 9)).heap.size = w.heap.size + 4 := by simp
  generalize ((((w.alloc (.cells #[.int .i64 0, .int .i64 0, .int .i64 0, .int .i64 0, .int .i64 0, .int .i64 0] 74)).alloc (.cells #[.bool false, .bool false, .bool false, .bool false] 75)).alloc (.cells #[.func (.func 47) #[] #[.pointer (some ⟨w.heap.size, 0, none⟩)], .func (.func 49) #[] #[.pointer (some ⟨w.heap.size, 0, none⟩)], .func (.func 51) #[] #[.pointer (some ⟨w.heap.size, 0, none⟩)], .func (.func 53) #[] #[.pointer (some ⟨w.heap.size, 0, none⟩)]] 80)).alloc (.cells #[.string s] 9)) = W0 at hW hBs hsz ⊢
  have HSZ := Lib.hid hsz
  refine wpIn_rangeFunc_ownG (n := 9) hro (by decide) (gf := 89) (lb := #[.pointer (some ⟨w.heap.size + 3, 0, none⟩)]) rfl trivial (enters_of Tryz.func89 (by kernel_rfl) rfl)
    (words_stops 8 (by decide) (w.heap.size + 3) s hs W0 (by omega) hBs) (fun h k => Eq.trans k h) (fun W l o o' hl ho hc _ => by unfold KpB; exact World.cell?_of_block (World.putObj_heap_other (by show w.heap.size + 3 ≠ l; omega))) (Below.refl _ _) (fun _ => rfl)
    (fun pre W => CkAt w W (foundL (pre.map (·.1)))) (fun _ _ _ => False) (CkAt.own w (fun pre => foundL (pre.map (·.1))) _ (by omega)) (fun _ _ _ _ _ hs _ _ => hs) hW ?a1 ?assign ?body ?done ?stop
  case assign =>
    intro l x W K hK
    gi_wp2
    exact hK
  case body =>
    intro l pre x W hI hlen
    have hx := x.2
    have HF := Lib.hid (show foundL ((pre ++ [x]).map (·.1)) = nextF (foundL (pre.map (·.1))) x.1 by rw [List.map_append]; exact foundL_snoc _ _)
    have hI2 : CkAt w W (foundL (pre.map (·.1))) := hI
    clear hI
    generalize foundL (pre.map (·.1)) = f at HF hI2
    have HI := Lib.hid hI2
    obtain ⟨hclk, h0, h1, h2, h3, hz, k0, k1, k2, k3, hbel, hsize⟩ := hI2
    gi_wp2
    clear hclk h0 h1 h2 h3 hz k0 k1 k2 k3 hbel hsize
    gi_loopw [19] (fun i wr => CkAt w wr f ∧ Hid (KeepsFrom W0.heap.size W wr ∧ KpB (w.heap.size + 3) W wr) ∧ ((i = .int .i64 0) ∨ (i = .int .i64 1 ∧ Hid (No0 f x.1)) ∨ (i = .int .i64 2 ∧ Hid (No0 f x.1) ∧ Hid (No1 f x.1)) ∨ (i = .int .i64 3 ∧ Hid (No0 f x.1) ∧ Hid (No1 f x.1) ∧ Hid (No2 f x.1)) ∨ (i = .int .i64 4 ∧ Hid (No0 f x.1) ∧ Hid (No1 f x.1) ∧ Hid (No2 f x.1) ∧ Hid (No3 f x.1)))) (fun i _ => (4 - intOf i).toNat)
    case atStart => exact ⟨HI.out, Lib.hid ⟨KeepsFrom.refl _ _, rfl⟩, .inl rfl⟩
    case round =>
      obtain ⟨hC, HK, hrel⟩ := hrel
      have HC := Lib.hid hC
      have hwr := hC.size
      rcases hrel with rfl | ⟨rfl, g0⟩ | ⟨rfl, g0, g1⟩ | ⟨rfl, g0, g1, g2⟩ | ⟨rfl, g0, g1, g2, g3⟩
      · obtain ⟨hclk, h0, h1, h2, h3, hz, k0, k1, k2, k3, hbel, hsize⟩ := hC
        have HCL := Lib.hid hclk
        clear hclk hbel
        cases hq : f.ht
        · rw [hq] at h0
          have HQ := Lib.hid hq
          clear hq
          have hix := pick_0 wr w.heap.size
          cases hb : timeB x.1
          · have HB := Lib.hid hb
            gi_wp2
            refine ⟨trivial, ?_⟩
            refine (CallsIn.inRound l (callsIn_wide.2 (reads_1 x.1 w.heap.size _ _ _ _ _ _ wr hx HCL.out (by omega)))).mono ?_
            rintro e wb ⟨rfl, hg, ht, hf⟩
            have hN := HC.out.rej hg (hf hb)
            have HK2 := Lib.hid (keepsBelow HK.out hg (by rw [HSZ.out]; omega) (by omega) (by omega))
            clear ht hf hg h0 h1 h2 h3 hz k0 k1 k2 k3 hb
            rw [HB.out]
            gi_wp2
            go_roundw
            case rel => exact ⟨hN, Lib.hid HK2.out, .inr (.inl ⟨rfl, Lib.hid (fun h => Bool.noConfusion (h.2.symm.trans HB.out))⟩)⟩
            case measure => simp [intOf]
          · have HB := Lib.hid hb
            gi_wp2
            refine ⟨trivial, ?_⟩
            refine (CallsIn.inRound l (callsIn_wide.2 (reads_1 x.1 w.heap.size _ _ _ _ _ _ wr hx HCL.out (by omega)))).mono ?_
            rintro e wb ⟨rfl, hg, ht, hf⟩
            have hN := HC.out.read hg (ht hb)
            have HFIN := Lib.hid (show CkAt w (wb.setCell ⟨w.heap.size + 1, 0, none⟩ (.bool true)) (foundL ((pre ++ [x]).map (·.1))) by rw [HF.out]; exact HC.out.acc0 hg (ht hb) (next_0  ⟨HQ.out, HB.out⟩))
            have HN := Lib.hid hN
            have HK2 := Lib.hid (keepsBelow HK.out hg (by rw [HSZ.out]; omega) (by omega) (by omega))
            have hwb := hN.size
            clear ht hf hg h0 h1 h2 h3 hz k0 k1 k2 k3 hb
            obtain ⟨hclk, h0, h1, h2, h3, hz, k0, k1, k2, k3, hbel, hsize⟩ := hN
            clear hclk hbel k0 k1 k2 k3
            rw [HB.out]
            gi_wp2
            have HK3 := keepsBelow HK2.out (GB_set wb (w.heap.size + 1) 0 (.bool true)) (by rw [HSZ.out]; omega) (by omega) (by omega)
            exact ⟨HK3.1, HK3.2, HFIN.out⟩
        · rw [hq] at h0
          have HQ := Lib.hid hq
          clear hq
          have hix := pick_0 wr w.heap.size
          gi_wp2
          refine ⟨fun _ h => (by cases h), ?_⟩
          gi_wp2
          go_roundw
          case rel => exact ⟨HC.out, Lib.hid HK.out, .inr (.inl ⟨rfl, Lib.hid (fun h => Bool.noConfusion (h.1.symm.trans HQ.out))⟩)⟩
          case measure => simp [intOf]
      · obtain ⟨hclk, h0, h1, h2, h3, hz, k0, k1, k2, k3, hbel, hsize⟩ := hC
        have HCL := Lib.hid hclk
        clear hclk hbel
        cases hq : f.hd
        · rw [hq] at h1
          have HQ := Lib.hid hq
          clear hq
          have hix := pick_1 wr w.heap.size
          cases hb : oneTwo x.1
          · have HB := Lib.hid hb
            gi_wp2
            refine ⟨trivial, ?_⟩
            refine (CallsIn.inRound l (callsIn_wide.2 (reads_2 x.1 w.heap.size _ _ _ _ _ _ wr hx HCL.out (by omega)))).mono ?_
            rintro e wb ⟨rfl, hg, ht, hf⟩
            have hN := HC.out.rej hg (hf hb)
            have HK2 := Lib.hid (keepsBelow HK.out hg (by rw [HSZ.out]; omega) (by omega) (by omega))
            clear ht hf hg h0 h1 h2 h3 hz k0 k1 k2 k3 hb
            rw [HB.out]
            gi_wp2
            go_roundw
            case rel => exact ⟨hN, Lib.hid HK2.out, .inr (.inr (.inl ⟨rfl, g0, Lib.hid (fun h => Bool.noConfusion (h.2.symm.trans HB.out))⟩))⟩
            case measure => simp [intOf]
          · have HB := Lib.hid hb
            gi_wp2
            refine ⟨trivial, ?_⟩
            refine (CallsIn.inRound l (callsIn_wide.2 (reads_2 x.1 w.heap.size _ _ _ _ _ _ wr hx HCL.out (by omega)))).mono ?_
            rintro e wb ⟨rfl, hg, ht, hf⟩
            have hN := HC.out.read hg (ht hb)
            have HFIN := Lib.hid (show CkAt w (wb.setCell ⟨w.heap.size + 1, 1, none⟩ (.bool true)) (foundL ((pre ++ [x]).map (·.1))) by rw [HF.out]; exact HC.out.acc1 hg (ht hb) (next_1 g0.out ⟨HQ.out, HB.out⟩))
            have HN := Lib.hid hN
            have HK2 := Lib.hid (keepsBelow HK.out hg (by rw [HSZ.out]; omega) (by omega) (by omega))
            have hwb := hN.size
            clear ht hf hg h0 h1 h2 h3 hz k0 k1 k2 k3 hb
            obtain ⟨hclk, h0, h1, h2, h3, hz, k0, k1, k2, k3, hbel, hsize⟩ := hN
            clear hclk hbel k0 k1 k2 k3
            rw [HB.out]
            gi_wp2
            have HK3 := keepsBelow HK2.out (GB_set wb (w.heap.size + 1) 1 (.bool true)) (by rw [HSZ.out]; omega) (by omega) (by omega)
            exact ⟨HK3.1, HK3.2, HFIN.out⟩
        · rw [hq] at h1
          have HQ := Lib.hid hq
          clear hq
          have hix := pick_1 wr w.heap.size
          gi_wp2
          refine ⟨fun _ h => (by cases h), ?_⟩
          gi_wp2
          go_roundw
          case rel => exact ⟨HC.out, Lib.hid HK.out, .inr (.inr (.inl ⟨rfl, g0, Lib.hid (fun h => Bool.noConfusion (h.1.symm.trans HQ.out))⟩))⟩
          case measure => simp [intOf]
      · obtain ⟨hclk, h0, h1, h2, h3, hz, k0, k1, k2, k3, hbel, hsize⟩ := hC
        have HCL := Lib.hid hclk
        clear hclk hbel
        cases hq : f.hm
        · rw [hq] at h2
          have HQ := Lib.hid hq
          clear hq
          have hix := pick_2 wr w.heap.size
          cases hb : monB x.1
          · have HB := Lib.hid hb
            gi_wp2
            refine ⟨trivial, ?_⟩
            refine (CallsIn.inRound l (callsIn_wide.2 (reads_3 x.1 w.heap.size _ _ _ _ _ _ wr hx HCL.out (by omega)))).mono ?_
            rintro e wb ⟨rfl, hg, ht, hf⟩
            have hN := HC.out.rej hg (hf hb)
            have HK2 := Lib.hid (keepsBelow HK.out hg (by rw [HSZ.out]; omega) (by omega) (by omega))
            clear ht hf hg h0 h1 h2 h3 hz k0 k1 k2 k3 hb
            rw [HB.out]
            gi_wp2
            go_roundw
            case rel => exact ⟨hN, Lib.hid HK2.out, .inr (.inr (.inr (.inl ⟨rfl, g0, g1, Lib.hid (fun h => of_decide_eq_false HB.out h.2)⟩)))⟩
            case measure => simp [intOf]
          · have HB := Lib.hid hb
            gi_wp2
            refine ⟨trivial, ?_⟩
            refine (CallsIn.inRound l (callsIn_wide.2 (reads_3 x.1 w.heap.size _ _ _ _ _ _ wr hx HCL.out (by omega)))).mono ?_
            rintro e wb ⟨rfl, hg, ht, hf⟩
            have hN := HC.out.read hg (ht hb)
            have HFIN := Lib.hid (show CkAt w (wb.setCell ⟨w.heap.size + 1, 2, none⟩ (.bool true)) (foundL ((pre ++ [x]).map (·.1))) by rw [HF.out]; exact HC.out.acc2 hg (ht hb) (next_2 g0.out g1.out ⟨HQ.out, of_decide_eq_true HB.out⟩))
            have HN := Lib.hid hN
            have HK2 := Lib.hid (keepsBelow HK.out hg (by rw [HSZ.out]; omega) (by omega) (by omega))
            have hwb := hN.size
            clear ht hf hg h0 h1 h2 h3 hz k0 k1 k2 k3 hb
            obtain ⟨hclk, h0, h1, h2, h3, hz, k0, k1, k2, k3, hbel, hsize⟩ := hN
            clear hclk hbel k0 k1 k2 k3
            rw [HB.out]
            gi_wp2
            have HK3 := keepsBelow HK2.out (GB_set wb (w.heap.size + 1) 2 (.bool true)) (by rw [HSZ.out]; omega) (by omega) (by omega)
            exact ⟨HK3.1, HK3.2, HFIN.out⟩
        · rw [hq] at h2
          have HQ := Lib.hid hq
          clear hq
          have hix := pick_2 wr w.heap.size
          gi_wp2
          refine ⟨fun _ h => (by cases h), ?_⟩
          gi_wp2
          go_roundw
          case rel => exact ⟨HC.out, Lib.hid HK.out, .inr (.inr (.inr (.inl ⟨rfl, g0, g1, Lib.hid (fun h => Bool.noConfusion (h.1.symm.trans HQ.out))⟩)))⟩
          case measure => simp [intOf]
      · obtain ⟨hclk, h0, h1, h2, h3, hz, k0, k1, k2, k3, hbel, hsize⟩ := hC
        have HCL := Lib.hid hclk
        clear hclk hbel
        cases hq : f.hy
        · rw [hq] at h3
          have HQ := Lib.hid hq
          clear hq
          have hix := pick_3 wr w.heap.size
          cases hb : twoFour x.1
          · have HB := Lib.hid hb
            gi_wp2
            refine ⟨trivial, ?_⟩
            refine (CallsIn.inRound l (callsIn_wide.2 (reads_4 x.1 w.heap.size _ _ _ _ _ _ wr hx HCL.out (by omega)))).mono ?_
            rintro e wb ⟨rfl, hg, ht, hf⟩
            have hN := HC.out.rej hg (hf hb)
            have HK2 := Lib.hid (keepsBelow HK.out hg (by rw [HSZ.out]; omega) (by omega) (by omega))
            clear ht hf hg h0 h1 h2 h3 hz k0 k1 k2 k3 hb
            rw [HB.out]
            gi_wp2
            go_roundw
            case rel => exact ⟨hN, Lib.hid HK2.out, .inr (.inr (.inr (.inr (⟨rfl, g0, g1, g2, Lib.hid (fun h => Bool.noConfusion (h.2.symm.trans HB.out))⟩))))⟩
            case measure => simp [intOf]
          · have HB := Lib.hid hb
            gi_wp2
            refine ⟨trivial, ?_⟩
            refine (CallsIn.inRound l (callsIn_wide.2 (reads_4 x.1 w.heap.size _ _ _ _ _ _ wr hx HCL.out (by omega)))).mono ?_
            rintro e wb ⟨rfl, hg, ht, hf⟩
            have hN := HC.out.read hg (ht hb)
            have HFIN := Lib.hid (show CkAt w (wb.setCell ⟨w.heap.size + 1, 3, none⟩ (.bool true)) (foundL ((pre ++ [x]).map (·.1))) by rw [HF.out]; exact HC.out.acc3 hg (ht hb) (next_3 g0.out g1.out g2.out ⟨HQ.out, HB.out⟩))
            have HN := Lib.hid hN
            have HK2 := Lib.hid (keepsBelow HK.out hg (by rw [HSZ.out]; omega) (by omega) (by omega))
            have hwb := hN.size
            clear ht hf hg h0 h1 h2 h3 hz k0 k1 k2 k3 hb
            obtain ⟨hclk, h0, h1, h2, h3, hz, k0, k1, k2, k3, hbel, hsize⟩ := hN
            clear hclk hbel k0 k1 k2 k3
            rw [HB.out]
            gi_wp2
            have HK3 := keepsBelow HK2.out (GB_set wb (w.heap.size + 1) 3 (.bool true)) (by rw [HSZ.out]; omega) (by omega) (by omega)
            exact ⟨HK3.1, HK3.2, HFIN.out⟩
        · rw [hq] at h3
          have HQ := Lib.hid hq
          clear hq
          have hix := pick_3 wr w.heap.size
          gi_wp2
          refine ⟨fun _ h => (by cases h), ?_⟩
          gi_wp2
          go_roundw
          case rel => exact ⟨HC.out, Lib.hid HK.out, .inr (.inr (.inr (.inr (⟨rfl, g0, g1, g2, Lib.hid (fun h => Bool.noConfusion (h.1.symm.trans HQ.out))⟩))))⟩
          case measure => simp [intOf]
      · clear hC
        gi_wp2
        exact ⟨HK.out.1, HK.out.2, by show CkAt w _ (foundL ((pre ++ [x]).map (·.1))); rw [HF.out, next_4 g0.out g1.out g2.out g3.out]; exact HC.out⟩
  case done =>
    rintro D ys W hD hS hI hK
    have hI2 : CkAt w W (foundL (ys.map (·.1))) := hI
    rw [hS] at hI2
    have hok := foundL_ok (wordsS s)
    have HV := Lib.hid (show cookieV s = fdV (foundL (wordsS s)) from rfl)
    clear hI hS
    generalize foundL (wordsS s) = f at hI2 hok HV
    have HI := Lib.hid hI2
    obtain ⟨hclk, h0, h1, h2, h3, hz, k0, k1, k2, k3, hbel, hsize⟩ := hI2
    obtain ⟨c0, c1, c2, c3, c4, c5, fz⟩ := hclk
    obtain ⟨y0, y1, m0, m1⟩ := hok
    have hW : w.heap.size < W.heap.size := by omega
    clear k0 k1 k2 k3 hbel
    have hDw : w.heap.size ≤ D := by rw [HSZ.out] at hD; omega
    have hDn : D ≠ w.heap.size := by rw [HSZ.out] at hD; omega
    have HB0 := Lib.hid (show Below w.heap.size w W from HI.out.bel)
    have HKK := Lib.hid hK
    have HDN := Lib.hid hDn
    clear hK hDn hD
    have hcy : (70 ≤ f.y ∧ f.y ≤ 99) ∨ (¬ (70 ≤ f.y ∧ f.y ≤ 99) ∧ f.y ≤ 69) ∨ (99 < f.y) := by omega
    have heq := fun W => eq4 W f.ht f.hd f.hm f.hy
    rw [show (f.ht && f.hd && f.hm && f.hy) = f.allB from rfl] at heq
    rcases hcy with ⟨g1, g2⟩ | ⟨g1, g2⟩ | g1
    · have HCE := Lib.hid (show cent f.y = f.y + 1900 from if_pos ⟨g1, g2⟩)
      have HK1 := Lib.hid (show (W.setCell ⟨w.heap.size, 0, none⟩ (.int .i64 (f.y + 1900))).heap[D]? = some (.deferred (some [])) from (Below.heap_setCell _ _ _ D HDN.out).trans HKK.out)
      have HB1 := Lib.hid (HB0.out.setCell (p := ⟨w.heap.size, 0, none⟩) (Nat.le_refl _) (.int .i64 (f.y + 1900)))
      cases hall : f.allB
      · rw [hall] at heq
        have HR := Lib.hid (show cookieV s = .tuple #[.int .i64 0, .bool false] by rw [HV.out]; unfold fdV; rw [if_neg (by rw [hall]; simp)])
        clear hall
        gi_wp2
        refine ⟨by simp, .inl ⟨_, _, rfl, run_takeDeferred HK1.out, ?_⟩⟩
        exact ⟨_, results_tmp2 rfl _ _ _, by rw [HR.out]; rfl, Below.trans HB1.out (belowK_b (w := w) (Nat.le_refl _) _ D _ _ hDw HK1.out rfl rfl)⟩
      · rw [hall] at heq
        have g9 : ¬ (f.y + 1900 < 1601) := by omega
        by_cases hv : vclk (f.y + 1900) f.m f.d f.h f.n f.s
        · have HR := Lib.hid (show cookieV s = .tuple #[.int .i64 (secs (f.y + 1900) f.m f.d f.h f.n f.s), .bool true] by rw [HV.out]; unfold fdV; rw [HCE.out, if_pos ⟨hall, by omega, hv⟩])
          have HVC := Lib.hid hv
          clear hall hv
          gi_wp2_with (refine ⟨trivial, ?_⟩; gi_at_call 55; refine (callsIn_wide.2 (epoch_yes _ _ _ _ _ _ _ HVC.out)).mono ?_; rintro e w3 ⟨rfl, hb3⟩)
          have HK3 := Lib.hid ((hb3.block D (Array.getElem?_eq_some_iff.1 HK1.out).1).trans HK1.out)
          have HB3 := Lib.hid (Below.trans HB1.out (hb3.mono HB1.out.size))
          refine ⟨by simp, .inl ⟨_, _, rfl, run_takeDeferred HK3.out, ?_⟩⟩
          exact ⟨_, results_tmp2 rfl _ _ _, by rw [HR.out]; rfl, Below.trans HB3.out (belowK_b (w := w) (Nat.le_refl _) _ D _ _ hDw HK3.out rfl rfl)⟩
        · have HR := Lib.hid (show cookieV s = .tuple #[.int .i64 0, .bool false] by rw [HV.out]; unfold fdV; rw [HCE.out, if_neg (fun h => hv h.2.2)])
          have HVC := Lib.hid hv
          clear hall hv
          gi_wp2_with (refine ⟨trivial, ?_⟩; gi_at_call 55; refine (callsIn_wide.2 (epoch_no _ _ _ _ _ _ _ HVC.out)).mono ?_; rintro e w3 ⟨rfl, hb3⟩)
          have HK3 := Lib.hid ((hb3.block D (Array.getElem?_eq_some_iff.1 HK1.out).1).trans HK1.out)
          have HB3 := Lib.hid (Below.trans HB1.out (hb3.mono HB1.out.size))
          refine ⟨by simp, .inl ⟨_, _, rfl, run_takeDeferred HK3.out, ?_⟩⟩
          exact ⟨_, results_tmp2 rfl _ _ _, by rw [HR.out]; rfl, Below.trans HB3.out (belowK_b (w := w) (Nat.le_refl _) _ D _ _ hDw HK3.out rfl rfl)⟩
    · have HCE := Lib.hid (show cent f.y = f.y + 2000 from by unfold cent; rw [if_neg g1, if_pos g2])
      have g3 : ¬ (70 ≤ f.y) := by omega
      have g4 : decide (70 ≤ f.y) = false := by simp; omega
      clear g1
      have HK1 := Lib.hid (show (W.setCell ⟨w.heap.size, 0, none⟩ (.int .i64 (f.y + 2000))).heap[D]? = some (.deferred (some [])) from (Below.heap_setCell _ _ _ D HDN.out).trans HKK.out)
      have HB1 := Lib.hid (HB0.out.setCell (p := ⟨w.heap.size, 0, none⟩) (Nat.le_refl _) (.int .i64 (f.y + 2000)))
      cases hall : f.allB
      · rw [hall] at heq
        have HR := Lib.hid (show cookieV s = .tuple #[.int .i64 0, .bool false] by rw [HV.out]; unfold fdV; rw [if_neg (by rw [hall]; simp)])
        clear hall
        gi_wp2
        refine ⟨by simp, .inl ⟨_, _, rfl, run_takeDeferred HK1.out, ?_⟩⟩
        exact ⟨_, results_tmp2 rfl _ _ _, by rw [HR.out]; rfl, Below.trans HB1.out (belowK_b (w := w) (Nat.le_refl _) _ D _ _ hDw HK1.out rfl rfl)⟩
      · rw [hall] at heq
        have g9 : ¬ (f.y + 2000 < 1601) := by omega
        by_cases hv : vclk (f.y + 2000) f.m f.d f.h f.n f.s
        · have HR := Lib.hid (show cookieV s = .tuple #[.int .i64 (secs (f.y + 2000) f.m f.d f.h f.n f.s), .bool true] by rw [HV.out]; unfold fdV; rw [HCE.out, if_pos ⟨hall, by omega, hv⟩])
          have HVC := Lib.hid hv
          clear hall hv
          gi_wp2_with (refine ⟨trivial, ?_⟩; gi_at_call 55; refine (callsIn_wide.2 (epoch_yes _ _ _ _ _ _ _ HVC.out)).mono ?_; rintro e w3 ⟨rfl, hb3⟩)
          have HK3 := Lib.hid ((hb3.block D (Array.getElem?_eq_some_iff.1 HK1.out).1).trans HK1.out)
          have HB3 := Lib.hid (Below.trans HB1.out (hb3.mono HB1.out.size))
          refine ⟨by simp, .inl ⟨_, _, rfl, run_takeDeferred HK3.out, ?_⟩⟩
          exact ⟨_, results_tmp2 rfl _ _ _, by rw [HR.out]; rfl, Below.trans HB3.out (belowK_b (w := w) (Nat.le_refl _) _ D _ _ hDw HK3.out rfl rfl)⟩
        · have HR := Lib.hid (show cookieV s = .tuple #[.int .i64 0, .bool false] by rw [HV.out]; unfold fdV; rw [HCE.out, if_neg (fun h => hv h.2.2)])
          have HVC := Lib.hid hv
          clear hall hv
          gi_wp2_with (refine ⟨trivial, ?_⟩; gi_at_call 55; refine (callsIn_wide.2 (epoch_no _ _ _ _ _ _ _ HVC.out)).mono ?_; rintro e w3 ⟨rfl, hb3⟩)
          have HK3 := Lib.hid ((hb3.block D (Array.getElem?_eq_some_iff.1 HK1.out).1).trans HK1.out)
          have HB3 := Lib.hid (Below.trans HB1.out (hb3.mono HB1.out.size))
          refine ⟨by simp, .inl ⟨_, _, rfl, run_takeDeferred HK3.out, ?_⟩⟩
          exact ⟨_, results_tmp2 rfl _ _ _, by rw [HR.out]; rfl, Below.trans HB3.out (belowK_b (w := w) (Nat.le_refl _) _ D _ _ hDw HK3.out rfl rfl)⟩
    · have HCE := Lib.hid (show cent f.y = f.y from by unfold cent; rw [if_neg (by omega), if_neg (by omega)])
      have g3 : ¬ (f.y ≤ 99) := by omega
      have g5 : (70 ≤ f.y) := by omega
      have g6 : ¬ (f.y ≤ 69) := by omega
      have g7 : decide (f.y ≤ 69) = false := by simp; omega
      have g8 : decide (f.y ≤ 99) = false := by simp; omega
      have HK1 := HKK
      have HB1 := HB0
      cases hall : f.allB
      · rw [hall] at heq
        have HR := Lib.hid (show cookieV s = .tuple #[.int .i64 0, .bool false] by rw [HV.out]; unfold fdV; rw [if_neg (by rw [hall]; simp)])
        clear hall
        gi_wp2
        refine ⟨by simp, .inl ⟨_, _, rfl, run_takeDeferred HK1.out, ?_⟩⟩
        exact ⟨_, results_tmp2 rfl _ _ _, by rw [HR.out]; rfl, Below.trans HB1.out (belowK_b (w := w) (Nat.le_refl _) _ D _ _ hDw HK1.out rfl rfl)⟩
      · rw [hall] at heq
        by_cases hlow : f.y < 1601
        · have HR := Lib.hid (show cookieV s = .tuple #[.int .i64 0, .bool false] by rw [HV.out]; unfold fdV; rw [HCE.out, if_neg (fun h => by have := h.2.1; omega)])
          clear hall
          gi_wp2
          refine ⟨by simp, .inl ⟨_, _, rfl, run_takeDeferred HK1.out, ?_⟩⟩
          exact ⟨_, results_tmp2 rfl _ _ _, by rw [HR.out]; rfl, Below.trans HB1.out (belowK_b (w := w) (Nat.le_refl _) _ D _ _ hDw HK1.out rfl rfl)⟩
        · by_cases hv : vclk (f.y) f.m f.d f.h f.n f.s
          · have HR := Lib.hid (show cookieV s = .tuple #[.int .i64 (secs (f.y) f.m f.d f.h f.n f.s), .bool true] by rw [HV.out]; unfold fdV; rw [HCE.out, if_pos ⟨hall, by omega, hv⟩])
            have HVC := Lib.hid hv
            clear hall hv
            gi_wp2_with (refine ⟨trivial, ?_⟩; gi_at_call 55; refine (callsIn_wide.2 (epoch_yes _ _ _ _ _ _ _ HVC.out)).mono ?_; rintro e w3 ⟨rfl, hb3⟩)
            have HK3 := Lib.hid ((hb3.block D (Array.getElem?_eq_some_iff.1 HK1.out).1).trans HK1.out)
            have HB3 := Lib.hid (Below.trans HB1.out (hb3.mono HB1.out.size))
            refine ⟨by simp, .inl ⟨_, _, rfl, run_takeDeferred HK3.out, ?_⟩⟩
            exact ⟨_, results_tmp2 rfl _ _ _, by rw [HR.out]; rfl, Below.trans HB3.out (belowK_b (w := w) (Nat.le_refl _) _ D _ _ hDw HK3.out rfl rfl)⟩
          · have HR := Lib.hid (show cookieV s = .tuple #[.int .i64 0, .bool false] by rw [HV.out]; unfold fdV; rw [HCE.out, if_neg (fun h => hv h.2.2)])
            have HVC := Lib.hid hv
            clear hall hv
            gi_wp2_with (refine ⟨trivial, ?_⟩; gi_at_call 55; refine (callsIn_wide.2 (epoch_no _ _ _ _ _ _ _ HVC.out)).mono ?_; rintro e w3 ⟨rfl, hb3⟩)
            have HK3 := Lib.hid ((hb3.block D (Array.getElem?_eq_some_iff.1 HK1.out).1).trans HK1.out)
            have HB3 := Lib.hid (Below.trans HB1.out (hb3.mono HB1.out.size))
            refine ⟨by simp, .inl ⟨_, _, rfl, run_takeDeferred HK3.out, ?_⟩⟩
            exact ⟨_, results_tmp2 rfl _ _ _, by rw [HR.out]; rfl, Below.trans HB3.out (belowK_b (w := w) (Nat.le_refl _) _ D _ _ hDw HK3.out rfl rfl)⟩

  case stop =>
    rintro D c pre W _ _ h _
    exact h.elim
end Go.Proofs.YtngamlikhgilhaaGreatDoor
