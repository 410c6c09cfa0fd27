/- The walk of the law InboxAll. -/
import Derived.Test.YthpmijaimmlgdaaSt
import Derived.Test.YthpmijaimmlgdaaRef
import Derived.Deep.SlicePairs
namespace Go.Proofs.Ythpmijaimmlgdaa
open Go.Conc Go.RowKit

def opK (l : (Nat → Int) × (Nat → ByteArray)) (k : Nat) : Int := l.1 k
def opS (l : (Nat → Int) × (Nat → ByteArray)) (k : Nat) : ByteArray := l.2 k

set_option maxRecDepth 100000 in
theorem all_out (a : Option Addr) (len cap : Nat) (w : World) (h : 200 < len) (hm : len ≤ maxLen) :
    Calls Try.prog 3 #[.slice a len cap] w fun e w' => e = .returned (.bool true) ∧ Below w.heap.size w w' := by
  unfold maxLen at hm
  go_enter Try.func3, Try.ntmps3
  go_wp2_with fail
  refine (st_new w w (Below.refl _ _)).mono ?_
  rintro e w1 ⟨p, c, rfl, h1, -, -⟩
  go_wp2_with fail
  refine (St.alive h1).mono ?_
  rintro e w2 ⟨rfl, h2⟩
  go_wp2_with fail
  go_ret
  exact ⟨by simp, h2.below⟩

/-- The state between two rounds: the inbox has what the row has. -/
def Rel (w0 w : World) (p c : Nat) (v : Value) (q : List ByteArray) : Prop := St w0 w p c q ∧ RS w w0.heap.size v q

theorem RS.below {w w' : World} {B : Nat} {v : Value} {q : List ByteArray} (h : RS w B v q) (hb : Below w.heap.size w w') : RS w' B v q := by
  rcases h with h | ⟨b, off, cp, rfl, h1, h2, ⟨cs, T, o, h3⟩, h4⟩
  · exact .inl h
  · have hlt : b < w.heap.size := (Array.getElem?_eq_some_iff.1 h3).1
    refine .inr ⟨b, off, cp, rfl, h1, h2, ⟨cs, T, o, by rw [hb.block b hlt]; exact h3⟩, fun i hi => ?_⟩
    rw [hb.cell (p := ⟨b, off + i, none⟩) hlt]
    exact h4 i hi
theorem RS.mono {w : World} {B B' : Nat} {v : Value} {q : List ByteArray} (h : RS w B v q) (hB : B' ≤ B) : RS w B' v q := by
  rcases h with h | ⟨b, off, cp, rfl, h1, h2⟩
  · exact .inl h
  · exact .inr ⟨b, off, cp, rfl, by omega, h2⟩
/-- A channel's block is none of the row's. -/
theorem RS.set {w : World} {B c : Nat} {v : Value} {q l : List ByteArray} (h : RS w B v q) (hc : ∃ cap buf cl s r tm, w.heap[c]? = some (.chan cap buf cl s r tm)) (s r : Nat) : RS (w.setChan c 8 (l.map Value.string).toArray false s r false) B v q := by
  rcases h with h | ⟨b, off, cp, rfl, h1, h2, ⟨cs, T, o, h3⟩, h4⟩
  · exact .inl h
  · obtain ⟨_, _, _, _, _, _, hc⟩ := hc
    have hne : c ≠ b := by
      rintro rfl
      rw [h3] at hc
      cases hc
    have hbk : (w.setChan c 8 (l.map Value.string).toArray false s r false).heap[b]? = w.heap[b]? := by
      simp only [World.setChan]
      rw [Array.getElem?_setIfInBounds_ne hne]
    refine .inr ⟨b, off, cp, rfl, h1, h2, ⟨cs, T, o, by rw [hbk]; exact h3⟩, fun i hi => ?_⟩
    rw [World.cell?_of_block (w := w) hbk]
    exact h4 i hi

theorem Rel.step {w0 w w' : World} {p c : Nat} {v : Value} {q : List ByteArray} (h : Rel w0 w p c v q) (hb : Below w.heap.size w w') : Rel w0 w' p c v q := ⟨h.1.step hb, h.2.below hb⟩

/-- Behind the program's call, ahead of the reference's: the inbox has l, the row still q. -/
def Mid (w0 w : World) (p c : Nat) (v : Value) (q l : List ByteArray) : Prop := St w0 w p c l ∧ RS w w0.heap.size v q
theorem Mid.below {w0 w : World} {p c : Nat} {v : Value} {q l : List ByteArray} (h : Mid w0 w p c v q l) : Below w0.heap.size w0 w := h.1.below
theorem Mid.step {w0 w w' : World} {p c : Nat} {v : Value} {q l : List ByteArray} (h : Mid w0 w p c v q l) (hb : Below w.heap.size w w') : Mid w0 w' p c v q l := ⟨h.1.step hb, h.2.below hb⟩

theorem m_post_room {w0 w : World} {p c : Nat} {v : Value} {l : List ByteArray} (h : Mid w0 w p c v l l) (hl : l.length < 8) (t : ByteArray) :
    Calls Try.prog 9 #[.pointer (some ⟨p, 0, none⟩), .string t] w fun e w' => e = .returned (.bool true) ∧ Mid w0 w' p c v l (l ++ [t]) ∧ w'.heap.size = w.heap.size ∧ (∀ k, k ≠ c → w'.heap[k]? = w.heap[k]?) := by
  refine (post_room p c l t w h.1.2.2.2.2 hl).mono ?_
  rintro e w' ⟨rfl, s, r, rfl⟩
  obtain ⟨_, hc⟩ := h.1.2.2.2.2
  obtain ⟨_, _, hc⟩ := hc
  refine ⟨rfl, ⟨h.1.set s r, h.2.set ⟨_, _, _, _, _, _, hc⟩ s r⟩, size_setChan _ _ _ _ _ _ _ _, fun k hk => ?_⟩
  simp only [World.setChan]
  rw [Array.getElem?_setIfInBounds_ne (by omega)]
theorem m_post_full {w0 w : World} {p c : Nat} {v : Value} {l : List ByteArray} (h : Mid w0 w p c v l l) (hl : 8 ≤ l.length) (t : ByteArray) :
    Calls Try.prog 9 #[.pointer (some ⟨p, 0, none⟩), .string t] w fun e w' => e = .returned (.bool false) ∧ w = w' := by
  refine (post_full p c l t w h.1.2.2.2.2 hl).mono ?_
  rintro e w' ⟨rfl, rfl⟩
  exact ⟨rfl, rfl⟩
theorem m_next_some {w0 w : World} {p c : Nat} {v : Value} {x : ByteArray} {l : List ByteArray} (h : Mid w0 w p c v (x :: l) (x :: l)) :
    Calls Try.prog 11 #[.pointer (some ⟨p, 0, none⟩)] w fun e w' => e = .returned (.tuple #[.string x, .bool true]) ∧ Mid w0 w' p c v (x :: l) l := by
  refine (next_some p c x l w h.1.2.2.2.2).mono ?_
  rintro e w' ⟨rfl, s, r, rfl⟩
  obtain ⟨_, hc⟩ := h.1.2.2.2.2
  obtain ⟨_, _, hc⟩ := hc
  exact ⟨rfl, h.1.set s r, h.2.set ⟨_, _, _, _, _, _, hc⟩ s r⟩
theorem m_next_none {w0 w : World} {p c : Nat} {v : Value} (h : Mid w0 w p c v [] []) :
    Calls Try.prog 11 #[.pointer (some ⟨p, 0, none⟩)] w fun e w' => e = .returned (.tuple #[.string ByteArray.empty, .bool false]) ∧ w = w' := by
  refine (next_none p c w h.1.2.2.2.2).mono ?_
  rintro e w' ⟨rfl, rfl⟩
  exact ⟨rfl, rfl⟩
theorem r_post_room {w0 w : World} {p c : Nat} {v : Value} {l : List ByteArray} {t : ByteArray} (h : Mid w0 w p c v l (l ++ [t])) (hl : l.length < 8) :
    Calls Try.prog 10 #[v, .string t] w fun e w' => ∃ v', e = .returned (.tuple #[v', .bool true]) ∧ Mid w0 w' p c v' (l ++ [t]) (l ++ [t]) := by
  refine (refPost_any v l t w _ h.2 hl).mono ?_
  rintro e w' ⟨v', rfl, h1, h2⟩
  exact ⟨v', rfl, h.1.step h1, h2.mono h.1.1.size⟩
theorem r_next_some {w0 w : World} {p c : Nat} {v : Value} {x : ByteArray} {l : List ByteArray} (h : Mid w0 w p c v (x :: l) l) :
    Calls Try.prog 12 #[v] w fun e w' => ∃ v', e = .returned (.tuple #[v', .string x, .bool true]) ∧ Mid w0 w' p c v' l l := by
  refine (refNext_some v x l w _ h.2).mono ?_
  rintro e w' ⟨v', n, rfl, rfl, h2⟩
  have hb : Below w.heap.size w (w.drewN n) := ⟨rfl, rfl, rfl, Nat.le_refl _, fun _ _ => rfl⟩
  exact ⟨v', rfl, h.1.step hb, h2.below hb⟩
theorem fresh_cell (w : World) (x y : Value) : (w.alloc (.cells #[x, y] 28)).cell? ⟨w.heap.size, 1, none⟩ = some y := by
  have := heap_alloc_new w (.cells #[x, y] 28)
  simp only [World.cell?, this]
  rfl
/-- How long the row is. -/
theorem m_len {w0 w : World} {p c : Nat} {v : Value} {l : List ByteArray} (h : Mid w0 w p c v l l) : ∃ a cp, v = .slice a l.length cp := by
  rcases h.2 with ⟨rfl, rfl⟩ | ⟨b, off, cp, rfl, _⟩
  · exact ⟨none, 0, rfl⟩
  · exact ⟨_, _, rfl⟩
theorem m_lenCall {w0 w : World} {p c : Nat} {v : Value} {l : List ByteArray} (h : Mid w0 w p c v l l) :
    Calls Try.prog 13 #[.pointer (some ⟨p, 0, none⟩)] w fun e w' => e = .returned (.int .i64 l.length) ∧ w = w' := by
  refine (len_any p c l w h.1.2.2.2.2).mono ?_
  rintro e w' ⟨rfl, rfl⟩
  exact ⟨rfl, rfl⟩
theorem m_alive {w0 w : World} {p c : Nat} {v : Value} {l : List ByteArray} (h : Mid w0 w p c v l l) : Calls Try.prog 8 #[] w fun e w' => e = .returned (.bool true) ∧ Below w0.heap.size w0 w' := by
  refine (alive_any w).mono ?_
  rintro e w' ⟨rfl, hb⟩
  exact ⟨rfl, (h.step hb).below⟩

set_option maxRecDepth 100000 in
set_option maxHeartbeats 1000000 in
theorem all_in (b off len cap : Nat) (l : (Nat → Int) × (Nat → ByteArray)) (w : World) (hl : len ≤ 200)
    (hc : ∀ k, k < len → w.cell? ⟨b, off + k * 2, none⟩ = some (.int .i64 (opK l k)) ∧ w.cell? ⟨b, off + k * 2 + 1, none⟩ = some (.string (opS l k)) ∧ b < w.heap.size) :
    Calls Try.prog 3 #[.slice (some ⟨b, off, none⟩) len cap] w fun e w' => e = .returned (.bool true) ∧ Below w.heap.size w w' := by
  have HC := Lib.hid hc
  clear hc
  have hb200 : decide (200 < (len : Int)) = false := by simp; omega
  go_enter Try.func3, Try.ntmps3
  go_wp2_with fail
  refine (st_new w w (Below.refl _ _)).mono ?_
  rintro e w1 ⟨p, c, rfl, h1, -, -⟩
  go_wp2_with fail
  go_loopw [4, 26] (fun v i wr => ∃ (k : Nat) (q : List ByteArray), k ≤ len ∧ i = .int .i64 k ∧ Mid w wr p c v q q) (fun _ i _ => (len - intOf i).toNat)
  case atStart => exact ⟨0, [], by omega, rfl, h1, .inl ⟨rfl, rfl⟩⟩
  case round =>
    clear h1
    obtain ⟨k, q, hk, rfl, hM⟩ := hrel
    by_cases hlt : k < len
    · obtain ⟨hk0, hs0, hbl⟩ := HC.out k hlt
      have hcK : wr.cell? ⟨b, off + k * 2, none⟩ = some (.int .i64 (opK l k)) := by rw [hM.below.cell hbl]; exact hk0
      have hcS : wr.cell? ⟨b, off + k * 2 + 1, none⟩ = some (.string (opS l k)) := by rw [hM.below.cell hbl]; exact hs0
      clear hk0 hs0
      by_cases h0 : opK l k = 0
      · have h0' : (opK l k == 0) = true := beq_iff_eq.2 h0
        clear h0
        by_cases hq : q.length < 8
        · go_wp2_with fail
          have hM1 := hM.step ((Below.refl _ wr).alloc (Nat.le_refl _) (.cells #[.int .i64 (opK l k), .string (opS l k)] 28))
          refine (m_post_room hM1 hq _).mono ?_
          rintro e w2 ⟨rfl, h2, -, hh⟩
          have hcell1 : w2.cell? ⟨wr.heap.size, 1, none⟩ = some (.string (opS l k)) := by
            have hne : wr.heap.size ≠ c := by
              have := hM.1.2.2.1
              have := hM.1.2.2.2.1
              omega
            rw [World.cell?_of_block (a := ⟨wr.heap.size, 1, none⟩) (hh _ hne)]
            exact fresh_cell _ _ _
          clear hh hM1
          go_wp2_with fail
          refine (r_post_room h2 hq).mono ?_
          rintro e w3 ⟨v', rfl, h3⟩
          clear h2 hcell1
          obtain ⟨a3, cp3, rfl⟩ := m_len h3
          go_wp2_with fail
          refine (m_lenCall h3).mono ?_
          rintro e w4 ⟨rfl, rfl⟩
          go_wp2_with fail
          go_roundw
          case rel => exact ⟨k + 1, q ++ [opS l k], by omega, by go_num, by simpa using h3⟩
          case measure => simp [intOf]; omega
        · have hM1 := hM.step ((Below.refl _ wr).alloc (Nat.le_refl _) (.cells #[.int .i64 (opK l k), .string (opS l k)] 28))
          have hq' : 8 ≤ q.length := by omega
          clear hq
          go_wp2_with fail
          refine (m_post_full hM1 hq' _).mono ?_
          rintro e w2 ⟨rfl, rfl⟩
          go_wp2_with fail
          refine (refPost_full _ q _ _ _ hM1.2 hq').mono ?_
          rintro e w3 ⟨rfl, rfl⟩
          obtain ⟨a3, cp3, rfl⟩ := m_len hM1
          go_wp2_with fail
          refine (m_lenCall hM1).mono ?_
          rintro e w4 ⟨rfl, rfl⟩
          go_wp2_with fail
          go_roundw
          case rel => exact ⟨k + 1, _, by omega, by go_num, hM1⟩
          case measure => simp [intOf]; omega
      · have h0' : (opK l k == 0) = false := beq_eq_false_iff_ne.2 h0
        clear h0
        have hM1 := hM.step ((Below.refl _ wr).alloc (Nat.le_refl _) (.cells #[.int .i64 (opK l k), .string (opS l k)] 28))
        clear hM
        cases q with
        | nil =>
          go_wp2_with fail
          refine (m_next_none hM1).mono ?_
          rintro e w2 ⟨rfl, rfl⟩
          go_wp2_with fail
          refine (refNext_nil _ _ _ hM1.2).mono ?_
          rintro e w3 ⟨rfl, rfl⟩
          obtain ⟨a3, cp3, rfl⟩ := m_len hM1
          go_wp2_with fail
          refine (m_lenCall hM1).mono ?_
          rintro e w4 ⟨rfl, rfl⟩
          go_wp2_with fail
          go_roundw
          case rel => exact ⟨k + 1, _, by omega, by go_num, hM1⟩
          case measure => simp [intOf]; omega
        | cons x q =>
          go_wp2_with fail
          refine (m_next_some hM1).mono ?_
          rintro e w2 ⟨rfl, h2⟩
          clear hM1
          go_wp2_with fail
          refine (r_next_some h2).mono ?_
          rintro e w3 ⟨v', rfl, h3⟩
          clear h2
          obtain ⟨a3, cp3, rfl⟩ := m_len h3
          go_wp2_with fail
          refine (m_lenCall h3).mono ?_
          rintro e w4 ⟨rfl, rfl⟩
          go_wp2_with fail
          go_roundw
          case rel => exact ⟨k + 1, _, by omega, by go_num, h3⟩
          case measure => simp [intOf]; omega
    · clear HC
      go_wp2_with fail
      refine (m_alive hM).mono ?_
      rintro e w2 ⟨rfl, h2⟩
      go_wp2_with fail
      go_ret
      exact ⟨rfl, h2⟩

set_option maxRecDepth 100000 in
theorem all_zero (a : Option Addr) (cap : Nat) (w : World) :
    Calls Try.prog 3 #[.slice a 0 cap] w fun e w' => e = .returned (.bool true) ∧ Below w.heap.size w w' := by
  go_enter Try.func3, Try.ntmps3
  go_wp2_with fail
  refine (st_new w w (Below.refl _ _)).mono ?_
  rintro e w1 ⟨p, c, rfl, h1, -, -⟩
  go_wp2_with fail
  go_loopw [26] (fun v wr => v = .int .i64 0 ∧ St w wr p c []) (fun _ _ => 0)
  case atStart => exact ⟨rfl, h1⟩
  case round =>
    obtain ⟨rfl, hS⟩ := hrel
    go_wp2_with fail
    refine (St.alive hS).mono ?_
    rintro e w2 ⟨rfl, h2⟩
    go_wp2_with fail
    go_ret
    exact ⟨rfl, h2.below⟩

/-- The slice's elements: so many kinds and texts. -/
def OpRow (w : World) (a : Option Addr) (len cap : Nat) (l : (Nat → Int) × (Nat → ByteArray)) : Prop :=
  len ≤ cap ∧ cap ≤ maxLen ∧ (len = 0 ∨ ∃ b off, a = some ⟨b, off, none⟩ ∧
    ∀ k, k < len → w.cell? ⟨b, off + k * 2, none⟩ = some (.int .i64 (opK l k)) ∧ w.cell? ⟨b, off + k * 2 + 1, none⟩ = some (.string (opS l k)) ∧ b < w.heap.size)

theorem all_any (a : Option Addr) (len cap : Nat) (l : (Nat → Int) × (Nat → ByteArray)) (w : World) (h : OpRow w a len cap l) :
    Calls Try.prog 3 #[.slice a len cap] w fun e w' => e = .returned (.bool true) ∧ Below w.heap.size w w' := by
  obtain ⟨h1, h2, h3⟩ := h
  by_cases hl : 200 < len
  · exact all_out a len cap w hl (Nat.le_trans h1 h2)
  · rcases h3 with rfl | ⟨b, off, rfl, h4⟩
    · exact all_zero a cap w
    · exact all_in b off len cap l w (by omega) h4

def intOfV : Value → Int
  | .int _ n => n
  | _ => 0
def strOfV : Value → ByteArray
  | .string s => s
  | _ => ByteArray.empty

theorem openOps {H : Type} {enc : TypeId × Value → H} {w : World} {base : Nat} {spare : Nat → Bool} {held : Bool} {a : Option Addr} {len cap : Nat} {d : DataW H} {p : List MemPlace}
    (h : DataW.Trod enc Try.prog w base spare held 22 (.slice a len cap) d p) : ∃ l, OpRow w a len cap l := by
  obtain ⟨fuel, hf⟩ := h
  rcases Go.Deep.open_slice_pairs Try.underlying22 Try.underlying28 (by kernel_rfl) rfl rfl (by kernel_rfl) (by kernel_rfl) hf with ⟨hcs, _⟩ | ⟨x, l, c, m, n, V0, V1, D0, D1, P0, P1, hcs, _, hl, hm, hmm, _, hcell⟩
  · simp [Value.cells] at hcs
    obtain ⟨rfl, rfl, rfl⟩ := hcs
    exact ⟨(fun _ => 0, fun _ => ByteArray.empty), by omega, by unfold maxLen; omega, .inl rfl⟩
  · simp [Value.cells] at hcs
    obtain ⟨rfl, rfl, rfl⟩ := hcs
    have hlz : len ≤ m := by rw [hmm]; split <;> omega
    refine ⟨(fun i => intOfV (V0 i), fun i => strOfV (V1 i)), hl, hm, ?_⟩
    rcases Nat.eq_zero_or_pos len with h0 | h0
    · exact .inl h0
    · obtain ⟨b, off, spot⟩ := x
      have hspot : spot = none := by simpa [Addr.add] using World.cell?_spot (hcell 0 (by omega)).1
      subst hspot
      refine .inr ⟨b, off, rfl, fun k hk => ?_⟩
      obtain ⟨h1, h2, h3, h4⟩ := hcell k (by omega)
      obtain ⟨x0, e0, _, _⟩ := DataW.trod_int Try.underlying3 h3
      obtain ⟨x1, e1, _⟩ := DataW.trod_string Try.underlying9 h4
      simp only [List.cons.injEq, and_true] at e0 e1
      rw [Go.WideShapes.add_plain] at h1 h2
      have hlt := cell_lt h1
      refine ⟨?_, ?_, hlt⟩
      · rw [h1]
        simp [opK, e0, intOfV]
      · rw [Nat.add_assoc, h2]
        simp [opS, e1, strOfV]
end Go.Proofs.Ythpmijaimmlgdaa
