/- A row of texts among the arguments; the walk of LinesTabbed. -/
import Derived.Test.YtmcjabmkacfilaaDoorLinX
namespace Go.Proofs.YtmcjabmkacfilaaDoor
open Go.RowKit Go.Shelf

/-- The slice's texts are q. -/
def StrRow (w : World) (A : Option Addr) (len cap : Nat) (q : List ByteArray) : Prop := len = q.length ∧ cap ≤ maxLen ∧ RT 0 w (.slice A len cap) q
theorem openStr {H : Type} {enc : TypeId × Value → H} {w : World} {base : Nat} {spare : Nat → Bool} {held : Bool} {a : Option Addr} {len cap : Nat} {d : DataW H} {p : List MemPlace}
    (h : DataW.Trod enc Tryd.prog w base spare held 23 (.slice a len cap) d p) : ∃ q, StrRow w a len cap q := by
  obtain ⟨fuel, hf⟩ := h
  rcases Go.ChangeShapes.open_strings Tryd.underlying23 Tryd.underlying9 (by kernel_rfl) hf with ⟨hcs, _⟩ | ⟨x, l, c, ss, hcs, _, hl, hm, hz, _, hcell, hsz⟩
  · simp [Value.cells] at hcs
    obtain ⟨rfl, rfl, rfl⟩ := hcs
    exact ⟨[], rfl, by unfold maxLen; omega, _, _, rfl, Nat.le_refl _, .inl rfl⟩
  · simp [Value.cells] at hcs
    obtain ⟨rfl, rfl, rfl⟩ := hcs
    have hlz : len ≤ ss.length := by rw [hz]; split <;> omega
    have hql : (ss.take len).length = len := by rw [List.length_take]; omega
    refine ⟨ss.take len, hql.symm, hm, _, _, by rw [hql], by rw [hql]; exact hl, ?_⟩
    rcases Nat.eq_zero_or_pos len with h0 | h0
    · exact .inl (by rw [h0]; rfl)
    · obtain ⟨b, off, spot⟩ := x
      have hspot : spot = none := by simpa [Addr.add] using World.cell?_spot (hcell 0 (by omega))
      subst hspot
      have hat : ∀ j (hj : j < (ss.take len).length), w.cell? ⟨b, off + j, none⟩ = some (.string (ss.take len)[j]) := fun j hj => by
        have hj3 : j < ss.length := by omega
        have hc := hcell j hj3
        rw [Go.WideShapes.add_plain] at hc
        rw [hc]
        simp [hj3]
      refine .inr ⟨b, off, rfl, Nat.zero_le _, ?_, hat⟩
      exact cell_ltL (hat 0 (by omega))
def sumL (q : List ByteArray) : Nat := (q.map fun x => min x.size 3000).sum
theorem sumL_take {q : List ByteArray} {k : Nat} (hk : k < q.length) : sumL (q.take (k + 1)) = sumL (q.take k) + min q[k].size 3000 := by
  unfold sumL
  rw [List.take_add_one, List.getElem?_eq_getElem hk, Option.toList_some, List.map_append, List.sum_append]
  simp
theorem lens_sum : ∀ (q : List ByteArray), sumL q ≤ 2000 → Lib.lens (q.map bs) = sumL q
  | [], _ => rfl
  | x :: r, h => by
    have e : sumL (x :: r) = min x.size 3000 + sumL r := rfl
    rw [e] at h ⊢
    have hi := lens_sum r (by omega)
    have hx : min x.size 3000 = x.size := by omega
    rw [List.map_cons]
    show (bs x).length + Lib.lens (r.map bs) = _
    rw [hi, hx, size_bs]
theorem tabJ_len {q : List ByteArray} (h : sumL q ≤ 2000) (h1 : q.length ≤ 100) : (tabJ q).length ≤ 1000000 := by
  cases q with
  | nil => exact Nat.zero_le _
  | cons x r =>
    have := lens_sum _ h
    unfold tabJ
    rw [List.map_cons, Lib.join_length, ← List.map_cons, this, List.length_map]
    simp only [List.length_cons, List.length_nil] at *
    omega
theorem tabbed_back {q : List ByteArray} {t : ByteArray} (h : tabbedO q = some t) : tabsS t = q ∧ t = mk (tabJ q) := by
  unfold tabbedO at h
  split at h
  · cases h
  · rename_i hn
    injection h with h
    subst h
    refine ⟨tabs_tabJ (fun e => hn (.inl e)) ?_, rfl⟩
    rw [← Bool.not_eq_true]
    exact fun e => hn (.inr e)
set_option maxRecDepth 100000 in
set_option maxHeartbeats 4000000 in
theorem linesTabbed_any (A : Option Addr) (len cap : Nat) (q : List ByteArray) (w : World) (hrow : StrRow w A len cap q) (hm : HasMax w) :
    Calls Tryd.prog 6 #[.slice A len cap] w fun e w' => e = .returned (.bool true) ∧ Below w.heap.size w w' := by
  obtain ⟨rfl, hcm, hr⟩ := hrow
  unfold maxLen at hcm
  have hcp : q.length ≤ cap := by obtain ⟨a, cp, he, hc, -⟩ := hr; injection he with _ _ he; omega
  go_enter Tryd.func6, Tryd.ntmps6
  go_wp2_with fail
  go_loop [3, 5, 12] (fun n _ i => ∃ k : Nat, k ≤ q.length ∧ i = .int .i64 k ∧ n = .int .i64 (sumL (q.take k)) ∧ sumL (q.take k) ≤ 2000 ∧ (k = 0 ∨ q.length ≤ 100)) (fun _ _ i => q.length - (intOf i).toNat)
  case atStart => exact ⟨0, Nat.zero_le _, rfl, rfl, Nat.zero_le _, .inl rfl⟩
  case round =>
    obtain ⟨k, hk, rfl, rfl, hs, h100⟩ := hrel
    by_cases hlt : k < q.length
    · obtain ⟨b, o, cp', he, -, -, hbl, hcell⟩ := hr.at hlt
      injection he with he1 he2 he3
      subst he1 he3
      have HT := Lib.hid (sumL_take hlt)
      generalize sumL (q.take k) = n at *
      by_cases hov : 2000 < n + min q[k].size 3000
      · have t1 : (2000 : Int) < (n : Int) + min (q[k].size : Int) 3000 := by omega
        have t2 : decide ((2000 : Int) < (n : Int) + min (q[k].size : Int) 3000) = true := decide_eq_true t1
        clear HT hov
        go_wp2_with fail
        refine (alive_any _ hm).mono ?_
        rintro e w1 ⟨rfl, hb1⟩
        go_wp2_with fail
        go_ret
        exact ⟨rfl, hb1⟩
      · have t1 : ¬ (2000 : Int) < (n : Int) + min (q[k].size : Int) 3000 := by omega
        have t2 : decide ((2000 : Int) < (n : Int) + min (q[k].size : Int) 3000) = false := decide_eq_false t1
        by_cases hlen : 100 < q.length
        · have l1 : (100 : Int) < (q.length : Int) := by omega
          have l2 : decide ((100 : Int) < (q.length : Int)) = true := decide_eq_true l1
          clear HT hov
          go_wp2_with fail
          refine (alive_any _ hm).mono ?_
          rintro e w1 ⟨rfl, hb1⟩
          go_wp2_with fail
          go_ret
          exact ⟨rfl, hb1⟩
        · have l1 : ¬ (100 : Int) < (q.length : Int) := by omega
          have l2 : decide ((100 : Int) < (q.length : Int)) = false := decide_eq_false l1
          have hc2 : (n : Int) + min (q[k].size : Int) 3000 = ((n + min q[k].size 3000 : Nat) : Int) := by omega
          have HC := Lib.hid hc2
          clear hc2
          go_wp2_with fail
          go_round
          case rel => exact ⟨k + 1, by omega, by go_num, by rw [HT.out, HC.out], by rw [HT.out]; omega, .inr (by omega)⟩
          case measure => simp [intOf]; omega
    · obtain rfl : k = q.length := by omega
      rw [List.take_length] at hs
      have hlen : q.length ≤ 100 := by rcases h100 with h | h <;> omega
      have hj := tabJ_len hs hlen
      have hst : ∀ t, tabbedO q = some t → t.size ≤ 1000000 := fun t ht => by rw [(tabbed_back ht).2, size_mk]; exact hj
      cases ho : tabbedO q with
      | none =>
        have HO := Lib.hid ho
        clear ho hst
        go_wp2_with fail
        refine (tabbed_any _ q _ hr hj (by omega)).mono ?_
        rintro e w2 ⟨rfl, hb2⟩
        rw [HO.out, optV]
        have R2 := hr.keep hb2
        go_wp2_with fail
        refine (rtabbed_any _ q _ R2 hj (by omega)).mono ?_
        rintro e w3 ⟨rfl, rfl⟩
        rw [HO.out, optV]
        go_wp2_with fail
        refine (alive_any _ (max_keep hm hb2)).mono ?_
        rintro e w4 ⟨rfl, hb4⟩
        have hB4 := Lsnoc hb2 hb4
        clear hb4 hb2 R2
        go_wp2_with fail
        go_ret
        exact ⟨by simp, hB4⟩
      | some t =>
        have HO := Lib.hid ho
        have HB := Lib.hid (tabbed_back ho).1
        have htz := hst t ho
        have hse := str_eq t
        clear ho hst
        go_wp2_with fail
        refine (tabbed_any _ q _ hr hj (by omega)).mono ?_
        rintro e w2 ⟨rfl, hb2⟩
        rw [HO.out, optV]
        have R2 := hr.keep hb2
        go_wp2_with fail
        refine (rtabbed_any _ q _ R2 hj (by omega)).mono ?_
        rintro e w3 ⟨rfl, rfl⟩
        rw [HO.out, optV]
        go_wp2_with fail
        refine (alive_any _ (max_keep hm hb2)).mono ?_
        rintro e w4 ⟨rfl, hb4⟩
        have R4 := R2.keep hb4
        have hB4 := Lsnoc hb2 hb4
        clear hb4 hb2 R2
        go_wp2_with fail
        refine (tabs_any t _ htz (max_keep hm hB4)).mono ?_
        rintro e w5 ⟨v5, rfl, R5, hb5⟩
        rw [HB.out] at R5
        have R4' := R4.keep hb5
        have R5' := R5.mono (Nat.zero_le _)
        have hB5 := Lsnoc hB4 hb5
        clear hb5 hB4 R4 R5
        go_wp2_with fail
        refine (rsame_any v5 _ q q _ R5' R4' (by omega)).mono ?_
        rintro e w6 ⟨rfl, hb6⟩
        have hB6 := Lsnoc hB5 hb6
        clear hb6 hB5 R5' R4'
        rw [show decide (q = q) = true from decide_eq_true rfl]
        go_wp2_with fail
        go_ret
        exact ⟨by simp, hB6⟩
end Go.Proofs.YtmcjabmkacfilaaDoor
