/- The contract of the reference's Same. -/
import Derived.Test.YtmcjabmkacfilaaDoorLinT
namespace Go.Proofs.YtmcjabmkacfilaaDoor
open Go.RowKit Go.Shelf

theorem take_eq_next {p q : List ByteArray} {k : Nat} (hp : k < p.length) (hq : k < q.length) (h : p.take k = q.take k) (he : p[k] = q[k]) : p.take (k + 1) = q.take (k + 1) := by
  rw [List.take_add_one, List.take_add_one, h, List.getElem?_eq_getElem hp, List.getElem?_eq_getElem hq, he]
theorem ne_of_at {p q : List ByteArray} {k : Nat} (hp : k < p.length) (hq : k < q.length) (he : p[k] ≠ q[k]) : p ≠ q := fun h => by subst h; exact he rfl
set_option maxRecDepth 100000 in
set_option maxHeartbeats 2000000 in
theorem rsame_any (v1 v2 : Value) (p q : List ByteArray) (w : World) (h1 : RT 0 w v1 p) (h2 : RT 0 w v2 q) (hp : p.length ≤ 1000000) :
    Calls Tryd.prog 13 #[v1, v2] w fun e w' => e = .returned (.bool (decide (p = q))) ∧ Below w.heap.size w w' := by
  have hv : ∃ a cp, v1 = .slice a p.length cp ∧ p.length ≤ cp := by obtain ⟨a, cp, rfl, hc, -⟩ := h1; exact ⟨a, cp, rfl, hc⟩
  obtain ⟨a1, c1, rfl, hc1⟩ := hv
  have hv : ∃ a cp, v2 = .slice a q.length cp ∧ q.length ≤ cp := by obtain ⟨a, cp, rfl, hc, -⟩ := h2; exact ⟨a, cp, rfl, hc⟩
  obtain ⟨a2, c2, rfl, hc2⟩ := hv
  by_cases hl : p.length = q.length
  · have e1 : ((p.length : Int) != (q.length : Int)) = false := by rw [hl]; simp
    have HL := Lib.hid hl
    clear hl
    go_enter Tryd.func13, Tryd.ntmps13
    go_wp2_with fail
    go_loopw [5] (fun i wr => ∃ k : Nat, k ≤ p.length ∧ i = .int .i64 k ∧ Hid (p.take k = q.take k) ∧ Below w.heap.size w wr) (fun i _ => p.length - (intOf i).toNat)
    case atStart => exact ⟨0, Nat.zero_le _, rfl, Lib.hid rfl, Below.refl _ _⟩
    case round =>
      obtain ⟨k, hk, rfl, HT, hb⟩ := hrel
      by_cases hlt : k < p.length
      · have hlt2 : k < q.length := by rw [← HL.out]; exact hlt
        obtain ⟨b1, o1, cp1, he1, -, -, hbl1, hcell1⟩ := h1.at hlt
        obtain ⟨b2, o2, cp2, he2, -, -, hbl2, hcell2⟩ := h2.at hlt2
        injection he1 with he1 he1' he1''
        injection he2 with he2 he2' he2''
        subst he1 he1'' he2 he2''
        have hx1 := (hb.cell (p := ⟨b1, o1 + k, none⟩) hbl1).trans hcell1
        have hx2 := (hb.cell (p := ⟨b2, o2 + k, none⟩) hbl2).trans hcell2
        by_cases he : p[k] = q[k]
        · have HN := Lib.hid (take_eq_next hlt hlt2 HT.out he)
          have hs : (p[k].toList == q[k].toList) = true := by rw [he]; exact str_eq _
          have hs2 : (p[k].toList != q[k].toList) = false := by rw [bne, hs]; rfl
          clear HT he
          go_upto_region 6 with fail
          refine wp_region_still_lit (by kernel_rfl) (by kernel_rfl) ?_
          repeat still_step
          refine wpStill_nil ?_
          have hb3 : Below w.heap.size w ({ heap := wr.heap, tape := wr.tape, drawn := wr.drawn + 1, os := wr.os, output := wr.output } : World) := Below.drew hb
          generalize ({ heap := wr.heap, tape := wr.tape, drawn := wr.drawn + 1, os := wr.os, output := wr.output } : World) = wd at *
          go_wp2_with fail
          go_round
          case rel => exact ⟨k + 1, by omega, by go_num, HN, hb3⟩
          case measure => simp [intOf]; omega
        · have HN := Lib.hid (ne_of_at hlt hlt2 he)
          have hs : (p[k].toList == q[k].toList) = false := str_ne he
          have hs2 : (p[k].toList != q[k].toList) = true := by rw [bne, hs]; rfl
          clear HT he
          go_upto_region 6 with fail
          refine wp_region_still_lit (by kernel_rfl) (by kernel_rfl) ?_
          repeat still_step
          refine wpStill_nil ?_
          have hb3 : Below w.heap.size w ({ heap := wr.heap, tape := wr.tape, drawn := wr.drawn + 1, os := wr.os, output := wr.output } : World) := Below.drew hb
          generalize ({ heap := wr.heap, tape := wr.tape, drawn := wr.drawn + 1, os := wr.os, output := wr.output } : World) = wd at *
          go_wp2_with fail
          go_ret
          exact ⟨by rw [decide_eq_false HN.out]; rfl, hb3⟩
      · obtain rfl : k = p.length := by omega
        have HN : Hid (p = q) := Lib.hid (by have := HT.out; rwa [List.take_length, HL.out, List.take_length] at this)
        clear HT
        go_wp2_with fail
        go_ret
        exact ⟨by rw [decide_eq_true HN.out]; rfl, hb⟩
  · have e1 : ((p.length : Int) != (q.length : Int)) = true := by simp; omega
    have e2 : ¬ ((p.length : Int) = (q.length : Int)) := by omega
    have HN : Hid (p ≠ q) := Lib.hid (fun h => hl (by rw [h]))
    clear hl
    go_enter Tryd.func13, Tryd.ntmps13
    go_wp2_with fail
    go_ret
    exact ⟨by rw [decide_eq_false HN.out]; rfl, Below.refl _ _⟩
end Go.Proofs.YtmcjabmkacfilaaDoor
