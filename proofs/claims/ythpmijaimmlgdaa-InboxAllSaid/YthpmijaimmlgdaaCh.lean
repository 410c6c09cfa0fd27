/- Contracts of the inbox's four functions (New, Post, Next, Len), each by a walk of the machine of one goroutine. -/
import Derived.Test.YthpmijaimmlgdaaProg
import Derived.Conc.LoneCalls
import Derived.Conc.LoneSelect
import Derived.Conc.LoneSelectN
import Derived.KernelRfl
import Derived.Laws.Rows
import Derived.WalkKit
namespace Go.Proofs.Ythpmijaimmlgdaa
open Go.Conc Go.RowKit

/-- The box at block p holds the channel c, whose buffer holds the texts l. -/
def Inb (w : World) (p c : Nat) (l : List ByteArray) : Prop :=
  w.heap[p]? = some (.cells #[.chan (some c)] 43 (0, 0)) ∧ ∃ s r, w.heap[c]? = some (.chan 8 (l.map Value.string).toArray false s r false)

set_option maxRecDepth 100000 in
theorem post_room (p c : Nat) (l : List ByteArray) (t : ByteArray) (w : World) (h : Inb w p c l) (hl : l.length < 8) :
    Calls Try.prog 9 #[.pointer (some ⟨p, 0, none⟩), .string t] w fun e w' => e = .returned (.bool true) ∧ ∃ s r, w' = w.setChan c 8 ((l ++ [t]).map Value.string).toArray false s r false := by
  obtain ⟨hp, s, r, hc⟩ := h
  have hcell : w.cell? ⟨p, 0, none⟩ = some (.chan (some c)) := by simp [World.cell?, hp]
  clear hp
  refine calls_of_loneTo fun cs => ?_
  have e : Frame.enter Try.prog 9 #[.pointer (some ⟨p, 0, none⟩), .string t] .normal = (base 9).at ⟨#[Value.pointer (some ⟨p, 0, none⟩), Value.string t, undef, undef, undef, undef, undef, undef, undef, undef, undef, undef, undef], []⟩ [.code (Try.f9.body.getD .skip)] := by
    simp [Frame.enter, Frame.at, Try.func9, base, Try.f9]
  rw [e]
  refine LoneTo.goes (n := 17) ?_
  simp only [Try.f9, Option.getD_some]
  s_c stepG_seq
  s_reg
  s_op
  s_c stepG_region_end
  s_c stepG_seq
  s_c stepG_seq
  s_reg
  s_op
  s_op
  s_op
  s_op
  s_c stepG_region_end
  s_reg
  s_op
  s_c stepG_region_end
  s_c stepG_seq
  s_reg
  s_stop
  refine LoneTo.step (step_lone_select_send_room (c := c) (v := .string t) (z' := .string ByteArray.empty) (cap := 8) (buf := (l.map Value.string).toArray) (s := s) (r := r) (tm := false)
    (stepG_comm (cases := #[scase c (.string t) (.string ByteArray.empty)]) (blocking := false) (shape := .select) (w' := w) rfl rfl (by decide) (by simp [go_sem, execOp, scase, Act.eval]; try rfl)) hc (by simp; omega)) ?_
  rw [Frame.finish_at]
  walk_nrm
  refine LoneTo.goes (n := 10) ?_
  s_op
  s_op
  s_c stepG_region_end
  s_c stepG_block
  s_cond true
  s_c stepG_seq
  s_reg
  s_op
  s_c stepG_region_end
  s_c stepG_ret'
  s_stop
  refine LoneTo.done ⟨.returned (.bool true), _, rfl, ⟨rfl, ⟨s + 1, r, by simp⟩⟩, rfl, rfl, rfl, rfl, _, Try.func9, by simp [results, Try.f9, Frame.at]⟩

set_option maxRecDepth 100000 in
theorem post_full (p c : Nat) (l : List ByteArray) (t : ByteArray) (w : World) (h : Inb w p c l) (hl : 8 ≤ l.length) :
    Calls Try.prog 9 #[.pointer (some ⟨p, 0, none⟩), .string t] w fun e w' => e = .returned (.bool false) ∧ w' = w := by
  obtain ⟨hp, s, r, hc⟩ := h
  have hcell : w.cell? ⟨p, 0, none⟩ = some (.chan (some c)) := by simp [World.cell?, hp]
  clear hp
  refine calls_of_loneTo fun cs => ?_
  have e : Frame.enter Try.prog 9 #[.pointer (some ⟨p, 0, none⟩), .string t] .normal = (base 9).at ⟨#[Value.pointer (some ⟨p, 0, none⟩), Value.string t, undef, undef, undef, undef, undef, undef, undef, undef, undef, undef, undef], []⟩ [.code (Try.f9.body.getD .skip)] := by
    simp [Frame.enter, Frame.at, Try.func9, base, Try.f9]
  rw [e]
  refine LoneTo.goes (n := 17) ?_
  simp only [Try.f9, Option.getD_some]
  s_c stepG_seq
  s_reg
  s_op
  s_c stepG_region_end
  s_c stepG_seq
  s_c stepG_seq
  s_reg
  s_op
  s_op
  s_op
  s_op
  s_c stepG_region_end
  s_reg
  s_op
  s_c stepG_region_end
  s_c stepG_seq
  s_reg
  s_stop
  refine LoneTo.step (step_lone_select_send_full (c := c) (v := .string t) (z' := .string ByteArray.empty) (cap := 8) (buf := (l.map Value.string).toArray) (s := s) (r := r) (tm := false)
    (stepG_comm (cases := #[scase c (.string t) (.string ByteArray.empty)]) (blocking := false) (shape := .select) (w' := w) rfl rfl (by decide) (by simp [go_sem, execOp, scase, Act.eval]; try rfl)) hc (by simp; omega)) ?_
  rw [Frame.finish_at]
  walk_nrm
  refine LoneTo.goes (n := 10) ?_
  s_op
  s_op
  s_c stepG_region_end
  s_c stepG_block
  s_cond false
  s_c stepG_seq
  s_reg
  s_op
  s_c stepG_region_end
  s_c stepG_ret'
  s_stop
  refine LoneTo.done ⟨.returned (.bool false), _, rfl, ⟨rfl, rfl⟩, rfl, rfl, rfl, rfl, _, Try.func9, by simp [results, Try.f9, Frame.at]⟩

set_option maxRecDepth 100000 in
theorem next_some (p c : Nat) (x : ByteArray) (l : List ByteArray) (w : World) (h : Inb w p c (x :: l)) :
    Calls Try.prog 11 #[.pointer (some ⟨p, 0, none⟩)] w fun e w' => e = .returned (.tuple #[.string x, .bool true]) ∧ ∃ s r, w' = w.setChan c 8 (l.map Value.string).toArray false s r false := by
  obtain ⟨hp, s, r, hc⟩ := h
  have hcell : w.cell? ⟨p, 0, none⟩ = some (.chan (some c)) := by simp [World.cell?, hp]
  clear hp
  refine calls_of_loneTo fun cs => ?_
  have e : Frame.enter Try.prog 11 #[.pointer (some ⟨p, 0, none⟩)] .normal = (base 11).at ⟨#[Value.pointer (some ⟨p, 0, none⟩), undef, undef, undef, undef, undef, undef, undef, undef, undef, undef, undef, undef, undef], []⟩ [.code (Try.f11.body.getD .skip)] := by
    simp [Frame.enter, Frame.at, Try.func11, base, Try.f11]
  rw [e]
  refine LoneTo.goes (n := 14) ?_
  simp only [Try.f11, Option.getD_some]
  s_c stepG_seq
  s_reg
  s_op
  s_op
  s_c stepG_region_end
  s_c stepG_seq
  s_reg
  s_op
  s_op
  s_op
  s_op
  s_c stepG_region_end
  s_c stepG_seq
  s_reg
  s_stop
  refine LoneTo.step (step_lone_select_recv_buf (c := c) (z := .string ByteArray.empty) (cap := 8) (buf := ((x :: l).map Value.string).toArray) (closed := false) (s := s) (r := r) (tm := false)
    (stepG_comm (cases := #[rcase c (.string ByteArray.empty)]) (blocking := false) (shape := .select) (w' := w) rfl rfl (by decide) (by simp [go_sem, execOp, rcase, Act.eval]; try rfl)) hc (by simp)) ?_
  rw [Frame.finish_at]
  walk_nrm
  refine LoneTo.goes (n := 22) ?_
  s_op
  s_op
  s_c stepG_region_end
  s_c stepG_block
  s_cond true
  s_c stepG_seq
  s_reg
  s_op
  s_op
  s_c stepG_region_end
  s_c stepG_seq
  s_reg
  s_op
  s_op
  s_op
  s_c stepG_region_end
  s_c stepG_ret'
  s_stop
  refine LoneTo.done ⟨.returned (.tuple #[.string x, .bool true]), _, rfl, ⟨rfl, ⟨s, r + 1, by rw [List.take_of_length_le (by simp)]⟩⟩, rfl, rfl, rfl, rfl, _, Try.func11, by simp [results, Try.f11, Frame.at]; try rfl⟩

set_option maxRecDepth 100000 in
theorem next_none (p c : Nat) (w : World) (h : Inb w p c []) :
    Calls Try.prog 11 #[.pointer (some ⟨p, 0, none⟩)] w fun e w' => e = .returned (.tuple #[.string ByteArray.empty, .bool false]) ∧ w' = w := by
  obtain ⟨hp, s, r, hc⟩ := h
  have hcell : w.cell? ⟨p, 0, none⟩ = some (.chan (some c)) := by simp [World.cell?, hp]
  clear hp
  refine calls_of_loneTo fun cs => ?_
  have e : Frame.enter Try.prog 11 #[.pointer (some ⟨p, 0, none⟩)] .normal = (base 11).at ⟨#[Value.pointer (some ⟨p, 0, none⟩), undef, undef, undef, undef, undef, undef, undef, undef, undef, undef, undef, undef, undef], []⟩ [.code (Try.f11.body.getD .skip)] := by
    simp [Frame.enter, Frame.at, Try.func11, base, Try.f11]
  rw [e]
  refine LoneTo.goes (n := 14) ?_
  simp only [Try.f11, Option.getD_some]
  s_c stepG_seq
  s_reg
  s_op
  s_op
  s_c stepG_region_end
  s_c stepG_seq
  s_reg
  s_op
  s_op
  s_op
  s_op
  s_c stepG_region_end
  s_c stepG_seq
  s_reg
  s_stop
  refine LoneTo.step (step_lone_select_default (c := c) (z := .string ByteArray.empty) (cap := 8) (s := s) (r := r) (tm := false)
    (stepG_comm (cases := #[rcase c (.string ByteArray.empty)]) (blocking := false) (shape := .select) (w' := w) rfl rfl (by decide) (by simp [go_sem, execOp, rcase, Act.eval]; try rfl)) hc) ?_
  rw [Frame.finish_at]
  walk_nrm
  refine LoneTo.goes (n := 16) ?_
  s_op
  s_op
  s_c stepG_region_end
  s_c stepG_block
  s_cond false
  s_c stepG_seq
  s_reg
  s_op
  s_op
  s_c stepG_region_end
  s_c stepG_ret'
  s_stop
  refine LoneTo.done ⟨.returned (.tuple #[.string ByteArray.empty, .bool false]), _, rfl, ⟨rfl, rfl⟩, rfl, rfl, rfl, rfl, _, Try.func11, by simp [results, Try.f11, Frame.at]; try rfl⟩

set_option maxRecDepth 100000 in
theorem len_any (p c : Nat) (l : List ByteArray) (w : World) (h : Inb w p c l) :
    Calls Try.prog 13 #[.pointer (some ⟨p, 0, none⟩)] w fun e w' => e = .returned (.int .i64 l.length) ∧ w' = w := by
  obtain ⟨hp, s, r, hc⟩ := h
  have hcell : w.cell? ⟨p, 0, none⟩ = some (.chan (some c)) := by simp [World.cell?, hp]
  have hlen := fun ty => run_len_chan (P := Try.prog) 41 ty Try.underlying41 hc
  clear hp hc
  go_enter Try.func13, Try.ntmps13
  go_wp2
  go_ret
  exact ⟨by simp, rfl⟩

theorem bytes9 : ∃ i, Try.prog.info? 9 = some i ∧ i.bytes = 16 := by
  have h : (Try.prog.info? 9).map (·.bytes) = some 16 := by kernel_rfl
  obtain ⟨i, hi, hb⟩ := Option.map_eq_some_iff.1 h
  exact ⟨i, hi, hb⟩
theorem mk8 (w : World) : (Instr.makeChan 41 (.int .i64 8)).run Try.prog w = .ok (.chan (some w.heap.size)) (w.alloc (.chan 8 #[] false 0 0 false)) := by
  obtain ⟨i, hi, hb⟩ := bytes9
  simpa using run_makeChan (P := Try.prog) (w := w) Try.underlying41 hi .i64 8 (by omega) (by rw [hb]; omega)

set_option maxRecDepth 100000 in
theorem new_any (w : World) :
    Calls Try.prog 7 #[] w fun e w' => e = .returned (.pointer (some ⟨w.heap.size + 1, 0, none⟩)) ∧ w' = (w.alloc (.chan 8 #[] false 0 0 false)).alloc (.cells #[.chan (some w.heap.size)] 43 (0, 0)) := by
  have hmc := mk8
  go_enter Try.func7, Try.ntmps7
  go_wp2
  go_ret
  exact ⟨by simp, rfl⟩
end Go.Proofs.Ythpmijaimmlgdaa
