/- The contracts of lines.Join, Tabs and Tabbed. -/
import Derived.Test.YtmcjabmkacfilaaDoorLinE
import Derived.Lib.IndexAny
namespace Go.Proofs.YtmcjabmkacfilaaDoor
open Go.RowKit Go.Shelf

def optV (o : Option ByteArray) : Value := .tuple #[.string (o.getD ⟨#[]⟩), .bool o.isSome]
def hasB (c : UInt8) (x : ByteArray) : Bool := (bs x).contains c
theorem has_ix (c : UInt8) (x : ByteArray) : decide (0 ≤ Lib.indexByte (bs x) c) = hasB c x := (Lib.contains_iff_indexByte (bs x) c).symm
def okJ (x : ByteArray) : Bool := !(hasB 10 x || endsB x 13)
def joinL (q : List ByteArray) : List UInt8 := (q.map fun x => bs x ++ [10]).flatten
def joinO (q : List ByteArray) : Option ByteArray := if q.all okJ = true then some (mk (joinL q)) else none
theorem joinL_take {q : List ByteArray} {k : Nat} (hk : k < q.length) : joinL (q.take (k + 1)) = joinL (q.take k) ++ bs q[k] ++ [10] := by
  unfold joinL
  rw [List.take_add_one, List.getElem?_eq_getElem hk, Option.toList_some, List.map_append, List.flatten_append]
  simp
theorem joinL_le (q : List ByteArray) (k : Nat) : (joinL (q.take k)).length ≤ (joinL q).length := by
  have : joinL q = joinL (q.take k) ++ joinL (q.drop k) := by unfold joinL; rw [← List.flatten_append, ← List.map_append, List.take_append_drop]
  rw [this, List.length_append]
  omega
theorem size_joinL {q : List ByteArray} {k : Nat} (hk : k < q.length) : (joinL (q.take k)).length + q[k].size + 1 ≤ (joinL q).length := by
  have h1 := joinL_le q (k + 1)
  rw [joinL_take hk, List.length_append, List.length_append, List.length_singleton, ← size_bs] at h1
  exact h1
theorem joinO_no {q : List ByteArray} {k : Nat} (hk : k < q.length) (h : okJ q[k] = false) : joinO q = none := by
  unfold joinO
  rw [if_neg]
  intro h2
  have := List.all_eq_true.1 h2 _ (List.getElem_mem hk)
  rw [h] at this
  cases this
theorem all_take {p : ByteArray → Bool} {q : List ByteArray} {k : Nat} (hk : k < q.length) (h : (q.take k).all p = true) (h1 : p q[k] = true) : (q.take (k + 1)).all p = true := by
  rw [List.take_add_one, List.getElem?_eq_getElem hk, Option.toList_some, List.all_append, h]
  simp [h1]
theorem RT.at {B : Nat} {w : World} {v : Value} {q : List ByteArray} (h : RT B w v q) {k : Nat} (hk : k < q.length) : ∃ b o cp, v = .slice (some ⟨b, o, none⟩) q.length cp ∧ q.length ≤ cp ∧ B ≤ b ∧ b < w.heap.size ∧ w.cell? ⟨b, o + k, none⟩ = some (.string q[k]) := by
  obtain ⟨a, cp, rfl, hc, h⟩ := h
  rcases h with rfl | ⟨b, o, rfl, hB, hlt, h⟩
  · cases hk
  · exact ⟨b, o, cp, rfl, hc, hB, hlt, h k hk⟩
theorem ix9 (s : ByteArray) (w : World) : Calls Tryd.prog 30 #[.string s, .int .u8 9] w fun e w' => e = .returned (.int .i64 (Lib.indexByte (bs s) 9)) ∧ w = w' := ixb_any s 9 w
theorem ix10 (s : ByteArray) (w : World) : Calls Tryd.prog 30 #[.string s, .int .u8 10] w fun e w' => e = .returned (.int .i64 (Lib.indexByte (bs s) 10)) ∧ w = w' := ixb_any s 10 w
theorem ix13 (s : ByteArray) (w : World) : Calls Tryd.prog 30 #[.string s, .int .u8 13] w fun e w' => e = .returned (.int .i64 (Lib.indexByte (bs s) 13)) ∧ w = w' := ixb_any s 13 w
theorem wb10 (B b : Nat) (l : List UInt8) (w : World) (h : Bld B b l w) (hlen : l.length + 1 ≤ 140737488355328) (hB : B ≤ w.heap.size) :
    Calls Tryd.prog 33 #[.pointer (some ⟨b, 0, none⟩), .int .u8 10] w fun e w' => e = .returned .nilIface ∧ Bld B b (l ++ [10]) w' ∧ Below B w w' := wbyte_any B b l 10 w h hlen hB
set_option maxRecDepth 100000 in
set_option maxHeartbeats 2000000 in
theorem join_any (v : Value) (q : List ByteArray) (w : World) (hr : RT 0 w v q) (hl : (joinL q).length ≤ 1000000) (hq : q.length ≤ 1000000) :
    Calls Tryd.prog 15 #[v] w fun e w' => e = .returned (optV (joinO q)) ∧ Below w.heap.size w w' := by
  have hv : ∃ a cp, v = .slice a q.length cp ∧ q.length ≤ cp := by obtain ⟨a, cp, rfl, hc, -⟩ := hr; exact ⟨a, cp, rfl, hc⟩
  obtain ⟨a, cp, rfl, hc⟩ := hv
  go_enter Tryd.func15, Tryd.ntmps15
  have hB0 := Bld.new w w.heap.size (Nat.le_refl _)
  have hb0 := (Below.refl w.heap.size w).alloc (Nat.le_refl _) (.cells #[.pointer none, .slice none 0 0] 39)
  go_wp2_with fail
  go_loopw [9, 6] (fun i _ wr => ∃ k : Nat, k ≤ q.length ∧ i = .int .i64 k ∧ Hid ((q.take k).all okJ = true) ∧ Bld w.heap.size w.heap.size (joinL (q.take k)) wr ∧ Below w.heap.size w wr) (fun i _ _ => q.length - (intOf i).toNat)
  case atStart => exact ⟨0, Nat.zero_le _, rfl, Lib.hid rfl, hB0, hb0⟩
  case round =>
    obtain ⟨k, hk, rfl, HA, hB, hb⟩ := hrel
    clear hB0 hb0
    by_cases hlt : k < q.length
    · obtain ⟨b, o, cp', he, -, -, hbl, hcell0⟩ := hr.at hlt
      injection he with he1 he2 he3
      subst he1 he3
      have hcell := (hb.cell (p := ⟨b, o + k, none⟩) hbl).trans hcell0
      have hzs := size_joinL hlt
      have hz : q[k].size ≤ 9223372036854775807 := by omega
      cases h1 : hasB 10 q[k]
      · have d1 : decide (0 ≤ Lib.indexByte (bs q[k]) 10) = false := (has_ix 10 q[k]).trans h1
        have d2 : ¬ 0 ≤ Lib.indexByte (bs q[k]) 10 := of_decide_eq_false d1
        cases h2 : endsB q[k] 13
        · have HN := Lib.hid (all_take hlt HA.out (by unfold okJ; rw [h1, h2]; rfl))
          have HT := Lib.hid (joinL_take hlt)
          have HH := Lib.hid h2
          clear h1 h2 HA
          go_wp2_with fail
          refine (ix10 q[k] _).mono ?_
          rintro e w1 ⟨rfl, rfl⟩
          generalize Lib.indexByte (bs q[k]) 10 = ix at *
          go_wp2_with fail
          refine (ends_any q[k] _ hz).mono ?_
          rintro e w1 ⟨rfl, rfl⟩
          rw [HH.out]
          go_wp2_with fail
          refine (wstr_any w.heap.size w.heap.size _ q[k] _ hB (by omega) hb.size).mono ?_
          rintro e w1 ⟨rfl, hB1, hb1⟩
          have hb2 := hb.trans hb1
          clear hB hb hb1
          go_wp2_with fail
          refine (wb10 w.heap.size w.heap.size _ _ hB1 (by rw [List.length_append, ← size_bs]; omega) hb2.size).mono ?_
          rintro e w3 ⟨rfl, hB3, hb3⟩
          rw [← HT.out] at hB3
          have hb4 := hb2.trans hb3
          clear hB1 hb2 hb3
          go_wp2_with fail
          go_roundw
          case rel => exact ⟨k + 1, by omega, by go_num, HN, hB3, hb4⟩
          case measure => simp [intOf]; omega
        · have HN := Lib.hid (joinO_no hlt (by unfold okJ; rw [h1, h2]; rfl))
          have HH := Lib.hid h2
          clear h1 h2 HA
          go_wp2_with fail
          refine (ix10 q[k] _).mono ?_
          rintro e w1 ⟨rfl, rfl⟩
          generalize Lib.indexByte (bs q[k]) 10 = ix at *
          go_wp2_with fail
          refine (ends_any q[k] _ hz).mono ?_
          rintro e w1 ⟨rfl, rfl⟩
          rw [HH.out]
          go_wp2_with fail
          go_ret2
          exact ⟨by rw [HN.out]; rfl, hb⟩
      · have d1 : decide (0 ≤ Lib.indexByte (bs q[k]) 10) = true := (has_ix 10 q[k]).trans h1
        have d2 : 0 ≤ Lib.indexByte (bs q[k]) 10 := of_decide_eq_true d1
        have HN := Lib.hid (joinO_no hlt (by unfold okJ; rw [h1]; rfl))
        clear h1 HA
        go_wp2_with fail
        refine (ix10 q[k] _).mono ?_
        rintro e w1 ⟨rfl, rfl⟩
        generalize Lib.indexByte (bs q[k]) 10 = ix at *
        go_wp2_with fail
        go_ret2
        exact ⟨by rw [HN.out]; rfl, hb⟩
    · obtain rfl : k = q.length := by omega
      have HN := Lib.hid (show joinO q = some (mk (joinL q)) by unfold joinO; rw [if_pos (by have := HA.out; rwa [List.take_length] at this)])
      rw [List.take_length] at hB
      clear HA
      go_wp2_with fail
      refine (bstr_any w.heap.size w.heap.size _ _ hB hb.size).mono ?_
      rintro e w1 ⟨rfl, hb1⟩
      go_wp2_with fail
      go_ret2
      exact ⟨by rw [HN.out]; rfl, hb.trans hb1⟩
end Go.Proofs.YtmcjabmkacfilaaDoor
