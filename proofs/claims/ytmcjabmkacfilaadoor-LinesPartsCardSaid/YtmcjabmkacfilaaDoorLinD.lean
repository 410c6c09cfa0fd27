/- The contract of lines.Split. -/
import Derived.Test.YtmcjabmkacfilaaDoorLinB
import Derived.Test.YtmcjabmkacfilaaDoorLinC
import Derived.Lib.Hide
namespace Go.Proofs.YtmcjabmkacfilaaDoor
open Go.RowKit Go.Shelf
attribute [local go_sem] Oper.semAt_some

/-- How long the text in the iterator's variable is. -/
def strAt (Bs : Nat) (w : World) : Nat := match w.cell? ⟨Bs, 0, none⟩ with
  | some (.string r) => r.size
  | _ => 0
theorem strAt_eq {Bs : Nat} {w : World} {r : ByteArray} (h : w.cell? ⟨Bs, 0, none⟩ = some (.string r)) : strAt Bs w = r.size := by unfold strAt; rw [h]
theorem toLs (s : ByteArray) : s.toList = bs s := ByteArray.toList_eq s
theorem map_bk (q : List ByteArray) : (q.map bs).map mk = q := by rw [List.map_map, show (mk ∘ bs) = id from funext mk_bs, List.map_id]
set_option maxRecDepth 100000 in
set_option maxHeartbeats 2000000 in
theorem each1_in (n : Nat) (hn : 1 ≤ n) (l Bs : Nat) (s : ByteArray) (hs : s.size ≤ 100000) (J : List ByteArray → World → Prop)
    (hJI : ∀ pre W, J pre W → HasMax W ∧ W.frozen? ⟨Bs, 0, none⟩ = false) (hJd : ∀ pre W k, J pre W → J pre (W.drewN k)) (hJs : ∀ pre W v, J pre W → J pre (W.setCell ⟨Bs, 0, none⟩ v))
    (hY : ∀ pre x W, J pre W → pre.length < s.size + 1 → YieldAt Fence.wide (n - 1) Tryd.prog l #[.string x] W fun e W' => e = .returned (.bool true) ∧ J (pre ++ [x]) W' ∧ KpS Bs W W')
    (W : World) (hW : W.cell? ⟨Bs, 0, none⟩ = some (.string s)) (h0 : J [] W) :
    CallsIn Fence.wide n Tryd.prog 48 #[.func (.yield l) #[] #[], .pointer (some ⟨Bs, 0, none⟩)] W fun e W' => (∃ v, e = .returned v) ∧ ∃ ys, ys = linesS s ∧ J ys W' := by
  refine callsIn_of_wp Tryd.func48 rfl trivial ?_ rfl
  simp only [Tryd.ntmps48, List.size_toArray, List.length_cons, List.length_nil, Nat.reduceAdd, Nat.reduceSub, Array.replicate_succ, Array.replicate_zero, List.push_toArray, List.append_toArray, List.nil_append, List.cons_append]
  have hro : Fence.wide.round = none := rfl
  gi_wp2
  gi_loopw [3, 4, 5] (fun _ _ _ wr => ∃ (pre : List ByteArray) (r : ByteArray), wr.cell? ⟨Bs, 0, none⟩ = some (.string r) ∧ Hid (linL (bs s) = pre.map bs ++ linL (bs r)) ∧ pre.length + r.size ≤ s.size ∧ J pre wr)
    (fun _ _ _ wr => strAt Bs wr)
  case atStart => exact ⟨[], s, hW, Lib.hid rfl, by simp, h0⟩
  case round =>
    obtain ⟨pre, r, hc, HL, hlen, hJ⟩ := hrel
    obtain ⟨hmx, hfz⟩ := hJI _ _ hJ
    have HJ := Lib.hid hJ
    have HY := Lib.hid hY
    clear hJ hY h0 hW
    by_cases hr : r = ⟨#[]⟩
    · subst hr
      gi_wp2
      go_end0
      exact ⟨⟨_, rfl⟩, _, by unfold linesS; rw [HL.out]; rw [show linL (bs (⟨#[]⟩ : ByteArray)) = [] from rfl, List.append_nil, map_bk], HJ.out⟩
    · have hrs : 0 < r.size := by
        rcases Nat.eq_zero_or_pos r.size with h | h
        · exact absurd (bs_inj (List.length_eq_zero_iff.1 (by rw [← size_bs]; exact h))) hr
        · exact h
      have hne : bs r ≠ [] := by intro h; rw [size_bs, h] at hrs; cases hrs
      have hte : r.toList.isEmpty = false := by rw [toLs]; cases hq : bs r with
        | nil => exact absurd hq hne
        | cons => rfl
      have hcd : ∀ n1, (wr.drewN n1).cell? ⟨Bs, 0, none⟩ = some (.string r) := fun _ => hc
      by_cases hf : 0 ≤ Lib.indexByte (bs r) 10
      · have hF := ixb_first hf
        have HV := Lib.hid (show cutV 10 r = .tuple #[.string (mk ((bs r).take (Lib.indexByte (bs r) 10).toNat)), .string (mk ((bs r).drop ((Lib.indexByte (bs r) 10).toNat + 1))), .bool true] from by unfold cutV; rw [if_pos hf])
        have hkl : (Lib.indexByte (bs r) 10).toNat < (bs r).length := by
          have := hF.1
          rw [List.getElem?_eq_some_iff] at this
          exact this.1
        have HN : Hid (linL (bs s) = (pre ++ [mk (chop ((bs r).take (Lib.indexByte (bs r) 10).toNat))]).map bs ++ linL (bs (mk ((bs r).drop ((Lib.indexByte (bs r) 10).toNat + 1))))) := Lib.hid (by
          rw [HL.out, linL_first hF, List.map_append, List.append_assoc]; rfl)
        clear hf hF HL
        generalize (Lib.indexByte (bs r) 10).toNat = k at *
        have hz1 : (mk ((bs r).take k)).size ≤ 9223372036854775807 := by rw [size_mk, List.length_take]; have := size_bs r; omega
        have hz2 : (mk ((bs r).drop (k + 1))).size + 1 ≤ r.size := by rw [size_mk, List.length_drop, size_bs]; omega
        generalize mk ((bs r).drop (k + 1)) = rest at *
        have HT := Lib.hid (show mk (chop (bs (mk ((bs r).take k)))) = mk (chop ((bs r).take k)) from rfl)
        generalize mk ((bs r).take k) = ln at *
        generalize mk (chop ((bs r).take k)) = x at *
        have hYx : ∀ n1, YieldAt Fence.wide (n - 1) Tryd.prog l #[.string x] (wr.drewN n1) fun e W' => e = .returned (.bool true) ∧ J (pre ++ [x]) W' ∧ KpS Bs (wr.drewN n1) W' := fun n1 => HY.out pre x _ (hJd _ _ n1 HJ.out) (by omega)
        have hr0 : r.size ≤ 100000 := by omega
        gi_wp2_with fail
        refine ⟨trivial, ?_⟩
        gi_at_call 49
        refine (callsIn_wide.2 (cut_any 10 r _ (by omega) hmx)).mono ?_
        rintro e w' ⟨rfl, n1, rfl⟩
        rw [HV.out]
        obtain ⟨fn, tmps, assign, body, hy, hR⟩ := hYx n1
        gi_wp2_with fail
        refine ⟨trivial, ?_⟩
        gi_at_call 50
        refine (callsIn_wide.2 (trim_any ln _ hz1)).mono ?_
        rintro e w' ⟨rfl, rfl⟩
        rw [HT.out]
        gi_wp2_with fail
        refine hR.mono ?_
        rintro e W3 ⟨rfl, hJ3, hk3⟩
        unfold KpS at hk3
        have hc3 := hk3.trans (hcd _)
        have hf3 := (hJI _ _ hJ3).2
        have HJ3 := Lib.hid (hJs _ _ (.string rest) hJ3)
        clear hJ3 hk3 hR hy HJ HY hmx hYx
        gi_wp2
        go_roundw
        case rel => exact ⟨pre ++ [x], rest, World.cell?_setCell_same' _ _ _ (by rw [hc3]; rfl), HN, by rw [List.length_append, List.length_singleton]; omega, HJ3.out⟩
        case measure => rw [strAt_eq (r := rest) (World.cell?_setCell_same' _ _ _ (by rw [hc3]; rfl)), strAt_eq hc]; omega
      · have HV := Lib.hid (show cutV 10 r = .tuple #[.string r, .string ⟨#[]⟩, .bool false] from by unfold cutV; rw [if_neg hf])
        have HN : Hid (linL (bs s) = (pre ++ [r]).map bs ++ linL (bs (⟨#[]⟩ : ByteArray))) := Lib.hid (by
          rw [HL.out, linL_none (ixb_none hf) hne, List.map_append, List.append_assoc]; rfl)
        clear hf HL
        have hYx : ∀ n1, YieldAt Fence.wide (n - 1) Tryd.prog l #[.string r] (wr.drewN n1) fun e W' => e = .returned (.bool true) ∧ J (pre ++ [r]) W' ∧ KpS Bs (wr.drewN n1) W' := fun n1 => HY.out pre r _ (hJd _ _ n1 HJ.out) (by omega)
        have hr0 : r.size ≤ 100000 := by omega
        have hz2 : (⟨#[]⟩ : ByteArray).size + 1 ≤ r.size := hrs
        gi_wp2_with fail
        refine ⟨trivial, ?_⟩
        gi_at_call 49
        refine (callsIn_wide.2 (cut_any 10 r _ (by omega) hmx)).mono ?_
        rintro e w' ⟨rfl, n1, rfl⟩
        rw [HV.out]
        obtain ⟨fn, tmps, assign, body, hy, hR⟩ := hYx n1
        gi_wp2_with fail
        refine hR.mono ?_
        rintro e W3 ⟨rfl, hJ3, hk3⟩
        unfold KpS at hk3
        have hc3 := hk3.trans (hcd _)
        have hf3 := (hJI _ _ hJ3).2
        have HJ3 := Lib.hid (hJs _ _ (.string ⟨#[]⟩) hJ3)
        clear hJ3 hk3 hR hy HJ HY hmx hYx
        gi_wp2
        go_roundw
        case rel => exact ⟨pre ++ [r], ⟨#[]⟩, World.cell?_setCell_same' _ _ _ (by rw [hc3]; rfl), HN, by rw [List.length_append, List.length_singleton]; omega, HJ3.out⟩
        case measure => rw [strAt_eq (r := ⟨#[]⟩) (World.cell?_setCell_same' _ _ _ (by rw [hc3]; rfl)), strAt_eq hc]; omega
end Go.Proofs.YtmcjabmkacfilaaDoor
