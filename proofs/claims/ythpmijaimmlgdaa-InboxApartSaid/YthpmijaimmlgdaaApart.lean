/- The walk of the law InboxApart: two inboxes side by side. -/
import Derived.Test.YthpmijaimmlgdaaSt
import Derived.Test.YthpmijaimmlgdaaStr
namespace Go.Proofs.Ythpmijaimmlgdaa
open Go.Conc Go.RowKit

/-- Two inboxes of the call's own, with so many texts. -/
def Tw (w0 w : World) (p c n p' c' n' : Nat) : Prop := ∃ l l', St w0 w p c l ∧ St w0 w p' c' l' ∧ p < c' ∧ l.length = n ∧ l'.length = n'

theorem Tw.below {w0 w : World} {p c n p' c' n' : Nat} (h : Tw w0 w p c n p' c' n') : Below w0.heap.size w0 w := by
  obtain ⟨_, _, h, _⟩ := h; exact h.below

/-- What a call hands back does not matter. -/
def Some1 (P : World → Prop) (e : Ending) (w' : World) : Prop := ∃ r : Bool, e = .returned (.bool r) ∧ P w'
def Some2 (P : World → Prop) (e : Ending) (w' : World) : Prop := ∃ (s : ByteArray) (r : Bool), e = .returned (.tuple #[.string s, .bool r]) ∧ P w'

theorem tw_postA {w0 w : World} {p c n p' c' n' m : Nat} (h : Tw w0 w p c n p' c' n') (t : ByteArray) (hm : m = min (n + 1) 8) (hn : n ≤ 8) :
    Calls Try.prog 9 #[.pointer (some ⟨p, 0, none⟩), .string t] w (Some1 fun w' => Tw w0 w' p c m p' c' n') := by
  obtain ⟨l, l', h1, h2, h3, rfl, rfl⟩ := h
  have h4 := h1.2.1
  have h5 := h1.2.2.1
  have h6 := h2.2.2.1
  by_cases hl : l.length < 8
  · refine (post_room p c l t w h1.2.2.2.2 hl).mono ?_
    rintro e w' ⟨rfl, s, r, rfl⟩
    exact ⟨_, rfl, _, _, h1.set s r, h2.other (by omega) (by omega) s r h4, h3, by simp; omega, rfl⟩
  · refine (post_full p c l t w h1.2.2.2.2 (by omega)).mono ?_
    rintro e w' ⟨rfl, rfl⟩
    exact ⟨_, rfl, _, _, h1, h2, h3, by omega, rfl⟩
theorem tw_postB {w0 w : World} {p c n p' c' n' m : Nat} (h : Tw w0 w p c n p' c' n') (t : ByteArray) (hm : m = min (n' + 1) 8) (hn : n' ≤ 8) :
    Calls Try.prog 9 #[.pointer (some ⟨p', 0, none⟩), .string t] w (Some1 fun w' => Tw w0 w' p c n p' c' m) := by
  obtain ⟨l, l', h1, h2, h3, rfl, rfl⟩ := h
  have h4 := h2.2.1
  have h5 := h1.2.2.1
  have h6 := h2.2.2.1
  by_cases hl : l'.length < 8
  · refine (post_room p' c' l' t w h2.2.2.2.2 hl).mono ?_
    rintro e w' ⟨rfl, s, r, rfl⟩
    exact ⟨_, rfl, _, _, h1.other (by omega) (by omega) s r h4, h2.set s r, h3, rfl, by simp; omega⟩
  · refine (post_full p' c' l' t w h2.2.2.2.2 (by omega)).mono ?_
    rintro e w' ⟨rfl, rfl⟩
    exact ⟨_, rfl, _, _, h1, h2, h3, rfl, by omega⟩
theorem tw_nextB {w0 w : World} {p c n p' c' n' m : Nat} (h : Tw w0 w p c n p' c' n') (hm : m = n' - 1) :
    Calls Try.prog 11 #[.pointer (some ⟨p', 0, none⟩)] w (Some2 fun w' => Tw w0 w' p c n p' c' m) := by
  obtain ⟨l, l', h1, h2, h3, rfl, rfl⟩ := h
  have h4 := h2.2.1
  have h5 := h1.2.2.1
  have h6 := h2.2.2.1
  cases l' with
  | cons x l' =>
    refine (next_some p' c' x l' w h2.2.2.2.2).mono ?_
    rintro e w' ⟨rfl, s, r, rfl⟩
    exact ⟨_, _, rfl, _, _, h1.other (by omega) (by omega) s r h4, h2.set s r, h3, rfl, by simpa using hm.symm⟩
  | nil =>
    refine (next_none p' c' w h2.2.2.2.2).mono ?_
    rintro e w' ⟨rfl, rfl⟩
    exact ⟨_, _, rfl, _, _, h1, h2, h3, rfl, by simpa using hm.symm⟩
theorem tw_lenA {w0 w : World} {p c n p' c' n' : Nat} (h : Tw w0 w p c n p' c' n') :
    Calls Try.prog 13 #[.pointer (some ⟨p, 0, none⟩)] w fun e w' => e = .returned (.int .i64 n) ∧ Tw w0 w' p c n p' c' n' := by
  obtain ⟨l, l', h1, h2, h3, rfl, rfl⟩ := h
  refine (len_any p c l w h1.2.2.2.2).mono ?_
  rintro e w' ⟨rfl, rfl⟩
  exact ⟨rfl, _, _, h1, h2, h3, rfl, rfl⟩
theorem tw_lenB {w0 w : World} {p c n p' c' n' : Nat} (h : Tw w0 w p c n p' c' n') :
    Calls Try.prog 13 #[.pointer (some ⟨p', 0, none⟩)] w fun e w' => e = .returned (.int .i64 n') ∧ Tw w0 w' p c n p' c' n' := by
  obtain ⟨l, l', h1, h2, h3, rfl, rfl⟩ := h
  refine (len_any p' c' l' w h2.2.2.2.2).mono ?_
  rintro e w' ⟨rfl, rfl⟩
  exact ⟨rfl, _, _, h1, h2, h3, rfl, rfl⟩
theorem Tw.alive {w0 w : World} {p c n p' c' n' : Nat} (h : Tw w0 w p c n p' c' n') : Calls Try.prog 8 #[] w fun e w' => e = .returned (.bool true) ∧ Tw w0 w' p c n p' c' n' := by
  obtain ⟨l, l', h1, h2, h3, rfl, rfl⟩ := h
  refine (alive_any w).mono ?_
  rintro e w' ⟨rfl, hb⟩
  exact ⟨rfl, _, _, h1.step hb, h2.step hb, h3, rfl, rfl⟩
theorem tw_new {w0 w : World} {p c : Nat} (h : St w0 w p c []) : Calls Try.prog 7 #[] w fun e w' => ∃ p' c', e = .returned (.pointer (some ⟨p', 0, none⟩)) ∧ Tw w0 w' p c 0 p' c' 0 := by
  refine (st_new w0 w h.below).mono ?_
  rintro e w' ⟨p', c', rfl, h1, h2, h3⟩
  have h4 := h.2.2.2.1
  exact ⟨_, _, rfl, _, _, h.step h2, h1, by omega, rfl, rfl⟩

set_option maxRecDepth 100000 in
theorem apart_out (a a' : Option Addr) (len cap len' cap' : Nat) (w : World) (h : 100 < len ∨ 100 < len') (hm : len ≤ maxLen) (hm' : len' ≤ maxLen) :
    Calls Try.prog 6 #[.slice a len cap, .slice a' len' cap'] w fun e w' => e = .returned (.bool true) ∧ Below w.heap.size w w' := by
  unfold maxLen at hm hm'
  have h3 : 100 < len ∨ (¬ 100 < len ∧ 100 < len') := by omega
  clear h
  rcases h3 with h | ⟨h, h'⟩
  all_goals
    go_enter Try.func6, Try.ntmps6
    go_wp2_with fail
    refine (st_new w w (Below.refl _ _)).mono ?_
    rintro e w1 ⟨p, c, rfl, h1, -, -⟩
    go_wp2_with fail
    refine (tw_new h1).mono ?_
    rintro e w2 ⟨p', c', rfl, h2⟩
    go_wp2_with fail
    refine (h2.alive).mono ?_
    rintro e w3 ⟨rfl, h3⟩
    go_wp2_with fail
    go_ret
    exact ⟨by simp, h3.below⟩

set_option maxRecDepth 100000 in
theorem apart_in (a a' : Option Addr) (len cap len' cap' : Nat) (ss ss' : List ByteArray) (w : World) (hl : len ≤ 100) (hl' : len' ≤ 100)
    (hc : ∀ k, k < len → ∃ b off, a = some ⟨b, off, none⟩ ∧ w.cell? ⟨b, off + k, none⟩ = some (.string (nth ss k)) ∧ b < w.heap.size)
    (hc' : ∀ k, k < len' → ∃ b off, a' = some ⟨b, off, none⟩ ∧ w.cell? ⟨b, off + k, none⟩ = some (.string (nth ss' k)) ∧ b < w.heap.size) :
    Calls Try.prog 6 #[.slice a len cap, .slice a' len' cap'] w fun e w' => e = .returned (.bool true) ∧ Below w.heap.size w w' := by
  have HC := Lib.hid hc
  have HC' := Lib.hid hc'
  clear hc hc'
  have hb1 : decide (100 < (len : Int)) = false := by simp; omega
  have hb2 : decide (100 < (len' : Int)) = false := by simp; omega
  go_enter Try.func6, Try.ntmps6
  go_wp2_with fail
  refine (st_new w w (Below.refl _ _)).mono ?_
  rintro e w1 ⟨p, c, rfl, h1, -, -⟩
  go_wp2_with fail
  refine (tw_new h1).mono ?_
  rintro e w2 ⟨p', c', rfl, h2⟩
  clear h1
  go_wp2_with fail
  go_loopw [41] (fun v wr => ∃ k : Nat, k ≤ len ∧ v = .int .i64 k ∧ Tw w wr p c (min k 8) p' c' 0) (fun v _ => (len - intOf v).toNat)
  case atStart => exact ⟨0, by omega, rfl, h2⟩
  case round =>
    clear h2
    obtain ⟨k, hk, rfl, hS⟩ := hrel
    by_cases hlt : k < len
    · obtain ⟨b, off, ha, hcell0, hbl⟩ := HC.out k hlt
      have hcell : wr.cell? ⟨b, off + k, none⟩ = some (.string (nth ss k)) := by
        rw [hS.below.cell hbl]; exact hcell0
      clear hcell0
      subst ha
      go_wp2_with fail
      refine (tw_postA (m := min (k + 1) 8) hS _ (by omega) (by omega)).mono ?_
      rintro e w2 ⟨r, rfl, h2⟩
      clear hS
      go_wp2_with fail
      go_roundw
      case rel => exact ⟨k + 1, by omega, by go_num, h2⟩
      case measure => simp [intOf]; omega
    · obtain ⟨N, hN⟩ : ∃ N, N = min len 8 := ⟨_, rfl⟩
      have HN := Lib.hid hN
      have hS2 : Tw w wr p c N p' c' 0 := by
        rw [show N = min k 8 by omega]; exact hS
      clear hS hN
      go_wp2_with fail
      refine (tw_lenA hS2).mono ?_
      rintro e w2 ⟨rfl, h2⟩
      clear hS2
      go_wp2_with fail
      clear hlt hk
      go_loopw [53] (fun v wr => ∃ k : Nat, k ≤ len' ∧ v = .int .i64 k ∧ Tw w wr p c N p' c' (min k 8)) (fun v _ => (len' - intOf v).toNat)
      case atStart => exact ⟨0, by omega, rfl, h2⟩
      case round =>
        clear h2
        obtain ⟨k, hk, rfl, hS⟩ := hrel
        by_cases hlt : k < len'
        · obtain ⟨b, off, ha, hcell0, hbl⟩ := HC'.out k hlt
          have hcell : wr.cell? ⟨b, off + k, none⟩ = some (.string (nth ss' k)) := by
            rw [hS.below.cell hbl]; exact hcell0
          clear hcell0
          subst ha
          go_wp2_with fail
          refine (tw_postB (m := min (k + 1) 8) hS _ (by omega) (by omega)).mono ?_
          rintro e w2 ⟨r, rfl, h2⟩
          clear hS
          go_wp2_with fail
          go_roundw
          case rel => exact ⟨k + 1, by omega, by go_num, h2⟩
          case measure => simp [intOf]; omega
        · obtain ⟨M, hM⟩ : ∃ M, M = min len' 8 := ⟨_, rfl⟩
          have HM := Lib.hid hM
          have hS2 : Tw w wr p c N p' c' (M - 0) := by
            rw [show M - 0 = min k 8 by omega]; exact hS
          clear hS hM
          go_wp2_with fail
          clear hlt hk
          go_loopw [63] (fun v wr => ∃ k : Nat, k ≤ len' ∧ v = .int .i64 k ∧ Tw w wr p c N p' c' (M - k)) (fun v _ => (len' - intOf v).toNat)
          case atStart => exact ⟨0, by omega, rfl, hS2⟩
          case round =>
            clear hS2
            obtain ⟨k, hk, rfl, hS⟩ := hrel
            by_cases hlt : k < len'
            · go_wp2_with fail
              refine (tw_nextB (m := M - (k + 1)) hS (by omega)).mono ?_
              rintro e w2 ⟨s, r, rfl, h2⟩
              clear hS
              go_wp2_with fail
              go_roundw
              case rel => exact ⟨k + 1, by omega, by go_num, h2⟩
              case measure => simp [intOf]; omega
            · have hS2 : Tw w wr p c N p' c' 0 := by
                have h1 := HM.out
                rw [show (0 : Nat) = M - k by omega]; exact hS
              clear hS
              have h8 : 8 < len ∨ ¬ 8 < len := by omega
              rcases h8 with h8 | h8
              all_goals
                have h1 := HN.out
                have hb3 : ((N : Int) == (N : Int)) = true := by simp
                have hb4 : 8 < len → ((N : Int) == 8) = true := fun h => beq_iff_eq.2 (by omega)
                have hb5 : ¬ 8 < len → ((N : Int) == (len : Int)) = true := fun h => beq_iff_eq.2 (by omega)
                have hb6 : ¬ 8 < len → (N == len) = true := fun h => beq_iff_eq.2 (by omega)
                first | replace hb4 := hb4 h8 | clear hb4
                first | replace hb5 := hb5 h8 | clear hb5
                first | replace hb6 := hb6 h8 | clear hb6
                clear h1
                go_wp2_with fail
                refine (hS2.alive).mono ?_
                rintro e w3 ⟨rfl, h3⟩
                clear hS2
                go_wp2_with fail
                refine (tw_lenA h3).mono ?_
                rintro e w4 ⟨rfl, h4⟩
                clear h3
                go_wp2_with fail
                refine (tw_lenB h4).mono ?_
                rintro e w5 ⟨rfl, h5⟩
                clear h4
                go_wp2_with fail
                go_ret
                exact ⟨by simp, h5.below⟩

theorem apart_any (a : Option Addr) (len cap : Nat) (ss : List ByteArray) (a' : Option Addr) (len' cap' : Nat) (ss' : List ByteArray) (w : World) (h : StrRow w a len cap ss) (h' : StrRow w a' len' cap' ss') :
    Calls Try.prog 6 #[.slice a len cap, .slice a' len' cap'] w fun e w' => e = .returned (.bool true) ∧ Below w.heap.size w w' := by
  obtain ⟨h1, h2, h3, h4⟩ := h
  obtain ⟨h1', h2', h3', h4'⟩ := h'
  by_cases hl : 100 < len ∨ 100 < len'
  · exact apart_out a a' len cap len' cap' w hl (Nat.le_trans h2 h3) (Nat.le_trans h2' h3')
  · refine apart_in a a' len cap len' cap' ss ss' w (by omega) (by omega) (fun k hk => ?_) (fun k hk => ?_)
    · rcases h4 with h | ⟨b, off, h5, h6⟩
      · omega
      · exact ⟨b, off, h5, h6 k hk⟩
    · rcases h4' with h | ⟨b, off, h5, h6⟩
      · omega
      · exact ⟨b, off, h5, h6 k hk⟩
end Go.Proofs.Ythpmijaimmlgdaa
