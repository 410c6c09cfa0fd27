/- The contract of lines.Tabbed. -/
import Derived.Test.YtmcjabmkacfilaaDoorLinG
namespace Go.Proofs.YtmcjabmkacfilaaDoor
open Go.RowKit Go.Shelf

set_option maxRecDepth 100000 in
set_option maxHeartbeats 1000000 in
theorem ixf_any (v : Value) (q : List ByteArray) (w : World) (hr : RT 0 w v q) (hq : q.length ≤ 1000000) :
    Calls Tryd.prog 55 #[v, .func (.func 37) #[] #[]] w fun e w' => ∃ n : Int, e = .returned (.int .i64 n) ∧ decide (0 ≤ n) = q.any oddB ∧ w = w' := by
  have hv : ∃ a cp, v = .slice a q.length cp ∧ q.length ≤ cp := by obtain ⟨a, cp, rfl, hc, -⟩ := hr; exact ⟨a, cp, rfl, hc⟩
  obtain ⟨a, cp, rfl, hc⟩ := hv
  go_enter Tryd.func55, Tryd.ntmps55
  go_wp2_with fail
  go_loop [8, 5] (fun i _ => ∃ k : Nat, k ≤ q.length ∧ i = .int .i64 k ∧ Hid ((q.take k).any oddB = false)) (fun i _ => q.length - (intOf i).toNat)
  case atStart => exact ⟨0, Nat.zero_le _, rfl, Lib.hid rfl⟩
  case round =>
    obtain ⟨k, hk, rfl, HA⟩ := hrel
    by_cases hlt : k < q.length
    · obtain ⟨b, o, cp', he, -, -, hbl, hcell⟩ := hr.at hlt
      injection he with he1 he2 he3
      subst he1 he3
      cases h1 : oddB q[k]
      · have HH := Lib.hid h1
        have HN : Hid ((q.take (k + 1)).any oddB = false) := Lib.hid (by rw [List.take_add_one, List.getElem?_eq_getElem hlt, Option.toList_some, List.any_append, HA.out]; simp [h1])
        clear h1 HA
        go_wp2_with fail
        refine (odd_any q[k] _).mono ?_
        rintro e w1 ⟨rfl, rfl⟩
        rw [HH.out]
        go_wp2_with fail
        go_round
        case rel => exact ⟨k + 1, by omega, by go_num, HN⟩
        case measure => simp [intOf]; omega
      · have HH := Lib.hid h1
        have HN : Hid (q.any oddB = true) := Lib.hid (List.any_eq_true.2 ⟨_, List.getElem_mem hlt, h1⟩)
        clear h1 HA
        go_wp2_with fail
        refine (odd_any q[k] _).mono ?_
        rintro e w1 ⟨rfl, rfl⟩
        rw [HH.out]
        go_wp2_with fail
        go_ret
        exact ⟨_, rfl, by rw [HN.out, decide_eq_true]; omega, rfl⟩
    · obtain rfl : k = q.length := by omega
      have HN : Hid (q.any oddB = false) := Lib.hid (by have := HA.out; rwa [List.take_length] at this)
      clear HA
      go_wp2_with fail
      go_ret
      exact ⟨_, rfl, by rw [HN.out]; rfl, rfl⟩
set_option maxRecDepth 100000 in
theorem cof_any (v : Value) (q : List ByteArray) (w : World) (hr : RT 0 w v q) (hq : q.length ≤ 1000000) :
    Calls Tryd.prog 38 #[v, .func (.func 37) #[] #[]] w fun e w' => e = .returned (.bool (q.any oddB)) ∧ w = w' := by
  go_enter Tryd.func38, Tryd.ntmps38
  go_wp2_with fail
  refine (ixf_any v q _ hr hq).mono ?_
  rintro e w1 ⟨n, rfl, h, rfl⟩
  have HH := Lib.hid h
  clear h
  go_wp2_with fail
  go_ret
  exact ⟨by rw [← HH.out]; rfl, rfl⟩
def tabJ (q : List ByteArray) : List UInt8 := Lib.join (q.map bs) [9]
def tabbedO (q : List ByteArray) : Option ByteArray := if q = [] ∨ q.any oddB = true then none else some (mk (tabJ q))
set_option maxRecDepth 100000 in
set_option maxHeartbeats 1000000 in
theorem tabbed_any (v : Value) (q : List ByteArray) (w : World) (hr : RT 0 w v q) (hl : (tabJ q).length ≤ 1000000) (hq : q.length ≤ 1000000) :
    Calls Tryd.prog 18 #[v] w fun e w' => e = .returned (optV (tabbedO q)) ∧ Below w.heap.size w w' := by
  have hr0 := hr
  obtain ⟨a, cp, rfl, hc, hr1⟩ := hr0
  by_cases hn : q = []
  · subst hn
    have HN : Hid (tabbedO [] = none) := Lib.hid rfl
    go_enter Tryd.func18, Tryd.ntmps18
    go_wp2_with fail
    go_ret2
    exact ⟨by rw [HN.out]; rfl, Below.refl _ _⟩
  · have hpos : 0 < q.length := List.length_pos_iff.2 hn
    have g1 : ((q.length : Int) == 0) = false := beq_eq_false_iff_ne.2 (by omega)
    have g2 : ¬ ((q.length : Int) = 0) := by omega
    cases h1 : q.any oddB
    · have HN : Hid (tabbedO q = some (mk (tabJ q))) := Lib.hid (by unfold tabbedO; rw [if_neg (by rw [h1]; simp [hn])])
      have HH := Lib.hid h1
      obtain ⟨b, o, rfl, -, hlt, hcell⟩ := hr1.resolve_left hn
      have hcs : ∀ (j : Nat) x, q[j]? = some x → w.cell? ⟨b, o + j, none⟩ = some (.string x) := fun j x hj => by
        obtain ⟨h9, rfl⟩ := List.getElem?_eq_some_iff.1 hj
        exact hcell j h9
      clear h1 hr1 hcell
      go_enter Tryd.func18, Tryd.ntmps18
      go_wp2_with fail
      refine (cof_any _ q _ hr hq).mono ?_
      rintro e w1 ⟨rfl, rfl⟩
      rw [HH.out]
      go_wp2_with fail
      refine (Any.strings_Join Tryd.lays156 bextraJ b o cp q ⟨#[9]⟩ w hcs hlt (by omega) hc (by exact Nat.le_trans hl (by decide))).mono ?_
      rintro e w2 ⟨rfl, hb⟩
      rw [show (⟨(Lib.join (q.map (·.data.toList)) (⟨#[9]⟩ : ByteArray).data.toList).toArray⟩ : ByteArray) = mk (tabJ q) from rfl]
      go_wp2_with fail
      go_ret2
      exact ⟨by rw [HN.out]; rfl, hb⟩
    · have HN : Hid (tabbedO q = none) := Lib.hid (by unfold tabbedO; rw [if_pos (.inr h1)])
      have HH := Lib.hid h1
      clear h1 hr1
      go_enter Tryd.func18, Tryd.ntmps18
      go_wp2_with fail
      refine (cof_any _ q _ hr hq).mono ?_
      rintro e w1 ⟨rfl, rfl⟩
      rw [HH.out]
      go_wp2_with fail
      go_ret2
      exact ⟨by rw [HN.out]; rfl, Below.refl _ _⟩
end Go.Proofs.YtmcjabmkacfilaaDoor
