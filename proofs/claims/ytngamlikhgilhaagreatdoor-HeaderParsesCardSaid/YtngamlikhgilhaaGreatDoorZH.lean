/- What stands between the dots: the plain law, for strings.Split and for the reference's loop. No program. -/
import Derived.Test.YtngamlikhgilhaaGreatDoorZA
import Derived.Lib.SplitLaws
import Derived.Lib.IndexBytes
import Derived.Test.YtngamlikhgilhaaGreatDoorShelf
import Derived.Deep.AppendSrc
import Derived.OwnWalk
namespace Go.Proofs.YtngamlikhgilhaaGreatDoor

def FirstAt (l : List UInt8) (c : UInt8) (k : Nat) : Prop := l[k]? = some c ∧ ∀ j, j < k → l[j]? ≠ some c
/-- The pieces between the instances of a byte. -/
def cuts (c : UInt8) : List UInt8 → List (List UInt8)
  | [] => [[]]
  | x :: l => if x = c then [] :: cuts c l else match cuts c l with
    | [] => [[x]]
    | h :: t => (x :: h) :: t
theorem cuts_ne (c : UInt8) (l : List UInt8) : cuts c l ≠ [] := by
  cases l with
  | nil => simp [cuts]
  | cons x l =>
    unfold cuts
    split
    · simp
    · split <;> simp
theorem cuts_none (c : UInt8) (l : List UInt8) (h : ∀ k : Nat, l[k]? ≠ some c) : cuts c l = [l] := by
  induction l with
  | nil => rfl
  | cons x l ih =>
    have hx : x ≠ c := fun e => h 0 (by simp [e])
    have hl := ih fun k => by have := h (k + 1); simpa using this
    unfold cuts
    rw [if_neg hx, hl]
theorem cuts_first (c : UInt8) (l : List UInt8) (k : Nat) (h : FirstAt l c k) : cuts c l = l.take k :: cuts c (l.drop (k + 1)) := by
  induction l generalizing k with
  | nil => simp [FirstAt] at h
  | cons x l ih =>
    cases k with
    | zero =>
      have hx : x = c := by simpa [FirstAt] using h
      rw [show cuts c (x :: l) = [] :: cuts c l by rw [cuts, if_pos hx]]
      simp
    | succ k =>
      have hx : x ≠ c := fun e => h.2 0 (by omega) (by simp [e])
      have hl := ih k ⟨by simpa using h.1, fun j hj => by have := h.2 (j + 1) (by omega); simpa using this⟩
      rw [cuts, if_neg hx, hl]
      simp
theorem cuts_len (c : UInt8) (l : List UInt8) : (cuts c l).length = l.count c + 1 := by
  induction l with
  | nil => rfl
  | cons x l ih =>
    unfold cuts
    split
    · rename_i hx
      rw [List.length_cons, ih, hx, List.count_cons_self]
    · rename_i hx
      rw [List.count_cons_of_ne hx]
      split
      · rename_i h0; exact absurd h0 (cuts_ne c l)
      · rename_i a b h0
        rw [h0] at ih
        simpa using ih
theorem cuts_sizes (c : UInt8) (l : List UInt8) : ∀ x ∈ cuts c l, x.length ≤ l.length := by
  induction l with
  | nil => simp [cuts]
  | cons y l ih =>
    unfold cuts
    split
    · intro x hx
      rw [List.mem_cons] at hx
      rcases hx with rfl | hx
      · simp
      · have := ih x hx; simp; omega
    · split
      · rename_i h0; exact absurd h0 (cuts_ne c l)
      · rename_i a b h0
        intro x hx
        rw [h0] at ih
        rw [List.mem_cons] at hx
        rcases hx with rfl | hx
        · have := ih a (List.mem_cons_self ..); simp; omega
        · have := ih x (List.mem_cons_of_mem _ hx); simp; omega

theorem ix_none {l : List UInt8} {c : UInt8} (h : Lib.indexByte l c = -1) : ∀ k : Nat, l[k]? ≠ some c := Lib.indexByte_none h
/-- The texts between the dots. -/
def dots (s : ByteArray) : List ByteArray := (cuts 46 (bs s)).map mk
theorem split_dots : ∀ (n : Nat) (s : ByteArray), (bs s).count 46 ≤ n → Lib.splitB ⟨#[46]⟩ 0 n s = dots s := by
  intro n
  induction n with
  | zero =>
    intro s h
    have hn : ∀ k : Nat, (bs s)[k]? ≠ some 46 := fun k hk => by
      have : 46 ∈ bs s := List.mem_of_getElem? hk
      have := List.count_pos_iff.2 this
      omega
    rw [Lib.splitB_zero, dots, cuts_none 46 _ hn]
    simp [mk_bs]
  | succ n ih =>
    intro s h
    have h1 := Lib.one s ⟨#[46]⟩ rfl
    have h2 : Lib.indexB s ⟨#[46]⟩ = Lib.indexByte (bs s) 46 := h1
    by_cases h3 : Lib.indexByte (bs s) 46 = -1
    · rw [Lib.splitB_miss _ _ _ _ (h2.trans h3), dots, cuts_none 46 _ (Lib.indexByte_none h3)]
      simp [mk_bs]
    · have h4 := Lib.indexByte_ge (bs s) 46
      obtain ⟨k, hk⟩ := Int.eq_ofNat_of_zero_le (show 0 ≤ Lib.indexByte (bs s) 46 by omega)
      have hf : FirstAt (bs s) 46 k := Lib.indexByte_some hk
      rw [Lib.splitB_hit _ _ _ _ k (h2.trans hk)]
      have e1 : bs (s.extract (k + 1) s.size) = (bs s).drop (k + 1) := by rw [bs_extract, List.take_of_length_le (by rw [← size_bs]; exact Nat.le_refl _)]
      have e2 : s.extract 0 (k + 0) = mk ((bs s).take k) := by apply bs_inj; rw [bs_extract, bs_mk]; simp
      rw [e2]
      show mk ((bs s).take k) :: Lib.splitB ⟨#[46]⟩ 0 n (s.extract (k + 1) s.size) = dots s
      rw [ih (s.extract (k + 1) s.size) (by
        rw [e1]
        have hc : (bs s).count 46 = ((bs s).take k).count 46 + (((bs s).drop k)).count 46 := by rw [← List.count_append, List.take_append_drop]
        have hlt : k < (bs s).length := (List.getElem?_eq_some_iff.1 hf.1).1
        have he : (bs s)[k] = 46 := by have := hf.1; rw [List.getElem?_eq_getElem hlt] at this; injection this
        rw [List.drop_eq_getElem_cons hlt, he, List.count_cons_self] at hc
        omega)]
      rw [dots, dots, e1, cuts_first 46 _ k hf, List.map_cons]
theorem count_dots (s : ByteArray) : Lib.countB s ⟨#[46]⟩ = (bs s).count 46 := by
  have h := Lib.splitB_all ⟨#[46]⟩ (by decide) 0 _ s rfl
  have : ∀ (m : Nat) (s : ByteArray), s.size ≤ m → Lib.countB s ⟨#[46]⟩ = (bs s).count 46 := by
    intro m
    induction m with
    | zero =>
      intro s hs
      have h0 : bs s = [] := List.eq_nil_of_length_eq_zero (by rw [← size_bs]; omega)
      have h1 := Lib.one s ⟨#[46]⟩ rfl
      have h2 : Lib.indexB s ⟨#[46]⟩ = Lib.indexByte (bs s) 46 := h1
      rw [Lib.countB_miss s _ (by rw [h2, h0]; rfl), h0]
      rfl
    | succ m ih =>
      intro s hs
      have h1 := Lib.one s ⟨#[46]⟩ rfl
      have h2 : Lib.indexB s ⟨#[46]⟩ = Lib.indexByte (bs s) 46 := h1
      by_cases h3 : Lib.indexByte (bs s) 46 = -1
      · rw [Lib.countB_miss s _ (h2.trans h3)]
        symm
        rw [List.count_eq_zero]
        intro hm
        obtain ⟨k, hk⟩ := List.getElem?_of_mem hm
        exact Lib.indexByte_none h3 k hk
      · have h4 := Lib.indexByte_ge (bs s) 46
        obtain ⟨k, hk⟩ := Int.eq_ofNat_of_zero_le (show 0 ≤ Lib.indexByte (bs s) 46 by omega)
        have hf : FirstAt (bs s) 46 k := Lib.indexByte_some hk
        have e1 : bs (s.extract (k + 1) s.size) = (bs s).drop (k + 1) := by rw [bs_extract, List.take_of_length_le (by rw [← size_bs]; exact Nat.le_refl _)]
        have hlt : k < (bs s).length := (List.getElem?_eq_some_iff.1 hf.1).1
        have he : (bs s)[k] = 46 := by have := hf.1; rw [List.getElem?_eq_getElem hlt] at this; injection this
        rw [Lib.countB_hit s _ k (by decide) (h2.trans hk)]
        show 1 + Lib.countB (s.extract (k + 1) s.size) ⟨#[46]⟩ = _
        rw [ih (s.extract (k + 1) s.size) (by rw [ByteArray.size_extract]; omega), e1]
        have hc : (bs s).count 46 = ((bs s).take k).count 46 + (((bs s).drop k)).count 46 := by rw [← List.count_append, List.take_append_drop]
        have hz : ((bs s).take k).count 46 = 0 := by
          rw [List.count_eq_zero]
          intro hm
          obtain ⟨j, hj⟩ := List.getElem?_of_mem hm
          rw [List.getElem?_take] at hj
          split at hj
          · exact hf.2 j (by assumption) hj
          · cases hj
        rw [List.drop_eq_getElem_cons hlt, he, List.count_cons_self] at hc
        omega
  exact this s.size s (Nat.le_refl _)
theorem dots_len (s : ByteArray) : (dots s).length = Lib.countB s ⟨#[46]⟩ + 1 := by rw [count_dots, dots, List.length_map, cuts_len]
theorem split_all (s : ByteArray) : Lib.splitB ⟨#[46]⟩ 0 (Lib.countB s ⟨#[46]⟩) s = dots s := split_dots _ s (by rw [count_dots]; exact Nat.le_refl _)
theorem dots_sizes (s : ByteArray) : ∀ x ∈ dots s, x.size ≤ s.size := by
  intro x hx
  obtain ⟨l, hl, rfl⟩ := List.mem_map.1 hx
  rw [size_mk, size_bs]
  exact cuts_sizes 46 (bs s) l hl
end Go.Proofs.YtngamlikhgilhaaGreatDoor
/- The parts of a host: contracts of package host and of its reference. -/
namespace Go.Proofs.YtngamlikhgilhaaGreatDoor
open Go.RowKit

/-- May a byte stand in a part of a host, at an end of it or within? -/
def mayB (c : Int) (e : Bool) : Bool := wi c 97 122 || wi c 48 57 || (c == 45 && !e)
set_option maxRecDepth 100000 in
theorem may_any (c : Int) (e : Bool) (w : World) : Calls Tryz.prog 110 #[.int .u8 c, .bool e] w fun x w' => x = .returned (.bool (mayB c e)) ∧ w = w' := by
  have hp : (c ≤ 122 ∧ 97 ≤ c) ∨ (122 < c ∧ 97 ≤ c ∧ 48 ≤ c ∧ 57 < c) ∨ (c < 97 ∧ 48 ≤ c ∧ c ≤ 57) ∨ (c < 97 ∧ 48 ≤ c ∧ 57 < c) ∨ (c < 97 ∧ c < 48 ∧ c = 45) ∨ (c < 97 ∧ c < 48 ∧ c ≠ 45) := by omega
  rcases hp with ⟨h1, h2⟩ | ⟨h1, h2, h3, h4⟩ | ⟨h1, h2, h3⟩ | ⟨h1, h2, h3⟩ | ⟨h1, h2, rfl⟩ | ⟨h1, h2, h3⟩
  · have HV := Lib.hid (show mayB c e = true by unfold mayB wi; simp; omega)
    go_enter Tryz.func110, Tryz.ntmps110
    go_wp2_with fail
    go_ret
    exact ⟨ret_bool HV.out.symm, rfl⟩
  · have HV := Lib.hid (show mayB c e = false by unfold mayB wi; simp; omega)
    have h5 : (c == 45) = false := beq_eq_false_iff_ne.2 (by omega)
    go_enter Tryz.func110, Tryz.ntmps110
    go_wp2_with fail
    go_ret
    exact ⟨ret_bool (by rw [HV.out]; simp; omega), rfl⟩
  · have HV := Lib.hid (show mayB c e = true by unfold mayB wi; simp; omega)
    go_enter Tryz.func110, Tryz.ntmps110
    go_wp2_with fail
    go_ret
    exact ⟨ret_bool HV.out.symm, rfl⟩
  · have HV := Lib.hid (show mayB c e = false by unfold mayB wi; simp; omega)
    have h5 : (c == 45) = false := beq_eq_false_iff_ne.2 (by omega)
    go_enter Tryz.func110, Tryz.ntmps110
    go_wp2_with fail
    go_ret
    exact ⟨ret_bool (by rw [HV.out]; simp; omega), rfl⟩
  · have HV := Lib.hid (show mayB 45 e = !e by cases e <;> rfl)
    go_enter Tryz.func110, Tryz.ntmps110
    go_wp2_with fail
    go_ret
    exact ⟨ret_bool HV.out.symm, rfl⟩
  · have HV := Lib.hid (show mayB c e = false by unfold mayB wi; simp; omega)
    have h5 : (c == 45) = false := beq_eq_false_iff_ne.2 h3
    clear h3
    go_enter Tryz.func110, Tryz.ntmps110
    go_wp2_with fail
    go_ret
    exact ⟨ret_bool HV.out.symm, rfl⟩

/-- May a text stand between a host's dots? -/
def partB (s : ByteArray) : Bool := decide (1 ≤ s.size) && decide (s.size ≤ 63) && (List.range s.size).all fun k => mayB (at_ s k) (k == 0 || k == s.size - 1)
theorem part_small (s : ByteArray) (h : s.size < 1) : partB s = false := by unfold partB; simp; omega
theorem part_large (s : ByteArray) (h : 63 < s.size) : partB s = false := by unfold partB; simp; omega
theorem part_no (s : ByteArray) (k : Nat) (hk : k < s.size) (h : mayB (at_ s k) (k == 0 || k == s.size - 1) = false) : partB s = false := by
  unfold partB
  rw [Bool.and_eq_false_iff]
  right
  rw [List.all_eq_false]
  exact ⟨k, List.mem_range.2 hk, by simp [h]⟩
theorem part_yes (s : ByteArray) (h1 : 1 ≤ s.size) (h2 : s.size ≤ 63) (h : ∀ k, k < s.size → mayB (at_ s k) (k == 0 || k == s.size - 1) = true) : partB s = true := by
  unfold partB
  simp only [Bool.and_eq_true, decide_eq_true_eq]
  refine ⟨⟨h1, h2⟩, List.all_eq_true.2 fun k hk => h k (List.mem_range.1 hk)⟩
theorem part_iff (s : ByteArray) : partB s = true ↔ 1 ≤ s.size ∧ s.size ≤ 63 ∧ ∀ k, k < s.size → mayB (at_ s k) (k == 0 || k == s.size - 1) = true := by
  unfold partB
  simp only [Bool.and_eq_true, decide_eq_true_eq, List.all_eq_true, List.mem_range, and_assoc]

/-- Without the ends: a byte of a part. -/
def midB (c : Int) : Bool := wi c 97 122 || wi c 48 57 || c == 45
theorem mid_of_may {c : Int} {e : Bool} (h : mayB c e = true) : midB c = true := by
  unfold mayB at h
  unfold midB
  cases h1 : wi c 97 122 <;> cases h2 : wi c 48 57 <;> cases h3 : c == 45 <;> simp_all
theorem may_of_mid {c : Int} {e : Bool} (h : midB c = true) (he : e = true → (c == 45) = false) : mayB c e = true := by
  unfold midB at h
  unfold mayB
  cases e
  · simpa using h
  · have := he rfl
    simp only [this, Bool.or_false, Bool.false_and] at h ⊢
    exact h
theorem part_ref (s : ByteArray) (h1 : 1 ≤ s.size) (h2 : s.size ≤ 63) (h3 : (at_ s 0 == 45) = false) (h4 : (at_ s (s.size - 1) == 45) = false) (h : ∀ k, k < s.size → midB (at_ s k) = true) : partB s = true :=
  part_yes s h1 h2 fun k hk => may_of_mid (h k hk) fun he => by
    rw [Bool.or_eq_true, beq_iff_eq, beq_iff_eq] at he
    rcases he with rfl | rfl
    · exact h3
    · exact h4
theorem part_first (s : ByteArray) (h1 : 1 ≤ s.size) (h : (at_ s 0 == 45) = true) : partB s = false :=
  part_no s 0 h1 (by
    rw [beq_iff_eq] at h
    rw [h]
    rfl)
theorem part_last (s : ByteArray) (h1 : 1 ≤ s.size) (h : (at_ s (s.size - 1) == 45) = true) : partB s = false :=
  part_no s (s.size - 1) (by omega) (by
    rw [beq_iff_eq] at h
    rw [h]
    simp [mayB, wi])
theorem part_mid (s : ByteArray) (k : Nat) (hk : k < s.size) (h : midB (at_ s k) = false) : partB s = false :=
  part_no s k hk (by
    cases hm : mayB (at_ s k) (k == 0 || k == s.size - 1)
    · rfl
    · rw [mid_of_may hm] at h; cases h)
end Go.Proofs.YtngamlikhgilhaaGreatDoor
/- The parts of a host, second text: whole parts, and rows of them. -/
namespace Go.Proofs.YtngamlikhgilhaaGreatDoor
open Go.RowKit

/-- The k-th text of a list. -/
def nth (ss : List ByteArray) (k : Nat) : ByteArray := ss.getD k ByteArray.empty
theorem nth_lt {q : List ByteArray} {i : Nat} (h : i < q.length) : nth q i = q[i] := by simp [nth, h]
theorem all_nth (q : List ByteArray) (p : ByteArray → Bool) (h : ∀ i, i < q.length → p (nth q i) = true) : q.all p = true := by
  rw [List.all_eq_true]
  intro x hx
  obtain ⟨i, hi, rfl⟩ := List.getElem_of_mem hx
  have := h i hi
  rwa [nth_lt hi] at this
theorem not_all_nth (q : List ByteArray) (p : ByteArray → Bool) (i : Nat) (hi : i < q.length) (h : p (nth q i) = false) : q.all p = false := by
  rw [List.all_eq_false]
  rw [nth_lt hi] at h
  exact ⟨q[i], List.getElem_mem hi, by simp [h]⟩

set_option maxRecDepth 100000 in
theorem rpart_any (s : ByteArray) (w : World) (hs : s.size ≤ 9223372036854775807) : Calls Tryz.prog 84 #[.string s] w fun e w' => e = .returned (.bool (partB s)) ∧ w = w' := by
  by_cases z1 : s.size < 1
  · have HV := Lib.hid (part_small s z1)
    go_enter Tryz.func84, Tryz.ntmps84
    go_wp2_with fail
    go_ret
    exact ⟨ret_bool HV.out.symm, rfl⟩
  by_cases z2 : 63 < s.size
  · have HV := Lib.hid (part_large s z2)
    go_enter Tryz.func84, Tryz.ntmps84
    go_wp2_with fail
    go_ret
    exact ⟨ret_bool HV.out.symm, rfl⟩
  have z0 : 0 < s.size := by omega
  have z3 : s.size - 1 < s.size := by omega
  have X0 := at_get s 0 z0
  have X1 := at_get s (s.size - 1) z3
  cases b0 : (((s[0]'z0).toNat : Int) == 45)
  case true =>
    have HV := Lib.hid (part_first s (by omega) (by rw [← X0]; exact b0))
    clear X0 X1
    go_enter Tryz.func84, Tryz.ntmps84
    go_wp2_with fail
    go_ret
    exact ⟨ret_bool HV.out.symm, rfl⟩
  case false =>
    cases b1 : (((s[s.size - 1]'z3).toNat : Int) == 45)
    case true =>
      have HV := Lib.hid (part_last s (by omega) (by rw [← X1]; exact b1))
      clear X0 X1
      go_enter Tryz.func84, Tryz.ntmps84
      go_wp2_with fail
      go_ret
      exact ⟨ret_bool HV.out.symm, rfl⟩
    case false =>
      have HY := Lib.hid (part_ref s (by omega) (by omega) (by rw [← X0]; exact b0) (by rw [← X1]; exact b1))
      clear X0 X1
      go_enter Tryz.func84, Tryz.ntmps84
      go_wp2_with fail
      go_loop [3] (fun i => ∃ k : Nat, k ≤ s.size ∧ i = .int .i64 k ∧ Hid (∀ j, j < k → midB (at_ s j) = true)) (fun i => s.size - (intOf i).toNat)
      case atStart => exact ⟨0, Nat.zero_le _, rfl, Lib.hid (by intro j hj; omega)⟩
      case round =>
        obtain ⟨k, hk, rfl, HA⟩ := hrel
        by_cases hlt : k < s.size
        · have HX := Lib.hid (at_get s k hlt)
          have HN := Lib.hid (part_mid s k hlt)
          have HS := Lib.hid (show midB (at_ s k) = true → ∀ j, j < k + 1 → midB (at_ s j) = true from fun hm j hj => by
            rcases Nat.lt_or_ge j k with h | h
            · exact HA.out j h
            · obtain rfl : j = k := by omega
              exact hm)
          have hp : (((s[k]).toNat : Int) ≤ 122 ∧ 97 ≤ ((s[k]).toNat : Int)) ∨ (122 < ((s[k]).toNat : Int) ∧ 97 ≤ ((s[k]).toNat : Int) ∧ 57 < ((s[k]).toNat : Int) ∧ 48 ≤ ((s[k]).toNat : Int)) ∨ (((s[k]).toNat : Int) < 97 ∧ 48 ≤ ((s[k]).toNat : Int) ∧ ((s[k]).toNat : Int) ≤ 57) ∨ (((s[k]).toNat : Int) < 97 ∧ 48 ≤ ((s[k]).toNat : Int) ∧ 57 < ((s[k]).toNat : Int)) ∨ (((s[k]).toNat : Int) < 97 ∧ ((s[k]).toNat : Int) < 48) := by omega
          have hbad : (57 < ((s[k]).toNat : Int) ∧ ((s[k]).toNat : Int) < 97) ∨ 122 < ((s[k]).toNat : Int) → midB (at_ s k) = false := fun h => by
            rw [← HX.out]
            unfold midB wi
            simp
            omega
          have hgood : (97 ≤ ((s[k]).toNat : Int) ∧ ((s[k]).toNat : Int) ≤ 122) ∨ (48 ≤ ((s[k]).toNat : Int) ∧ ((s[k]).toNat : Int) ≤ 57) → midB (at_ s k) = true := fun h => by
            rw [← HX.out]
            unfold midB wi
            simp
            omega
          have hlow : ((s[k]).toNat : Int) < 48 → midB (at_ s k) = (((s[k]).toNat : Int) == 45) := fun h => by
            rw [← HX.out]
            unfold midB wi
            have e1 : decide (97 ≤ ((s[k]).toNat : Int)) = false := by simp; omega
            have e2 : decide (48 ≤ ((s[k]).toNat : Int)) = false := by simp; omega
            rw [e1, e2]
            simp
          rcases hp with ⟨h1, h2⟩ | ⟨h1, h2, h3, h4⟩ | ⟨h1, h2, h3⟩ | ⟨h1, h2, h3⟩ | ⟨h1, h2⟩
          · have HG := Lib.hid (hgood (.inl ⟨h2, h1⟩))
            clear hbad hgood hlow
            go_wp2_with fail
            go_round
            case rel => exact ⟨k + 1, by omega, by go_num, Lib.hid (HS.out HG.out)⟩
            case measure => simp [intOf]; omega
          · have HV := Lib.hid (HN.out (hbad (.inr h1)))
            have d1 : decide (((s[k]).toNat : Int) ≤ 122) = false := decide_eq_false (by omega)
            have d2 : decide (((s[k]).toNat : Int) ≤ 57) = false := decide_eq_false (by omega)
            have h5 : (((s[k]).toNat : Int) != 45) = true := bne_iff_ne.2 (by omega)
            clear hbad hgood hlow
            go_wp2_with fail
            go_ret
            exact ⟨ret_bool HV.out.symm, rfl⟩
          · have HG := Lib.hid (hgood (.inr ⟨h2, h3⟩))
            clear hbad hgood hlow
            go_wp2_with fail
            go_round
            case rel => exact ⟨k + 1, by omega, by go_num, Lib.hid (HS.out HG.out)⟩
            case measure => simp [intOf]; omega
          · have HV := Lib.hid (HN.out (hbad (.inl ⟨h3, h1⟩)))
            have d2 : decide (((s[k]).toNat : Int) ≤ 57) = false := decide_eq_false (by omega)
            have h5 : (((s[k]).toNat : Int) != 45) = true := bne_iff_ne.2 (by omega)
            clear hbad hgood hlow
            go_wp2_with fail
            go_ret
            exact ⟨ret_bool HV.out.symm, rfl⟩
          · cases h5 : (((s[k]).toNat : Int) == 45)
            · have HV := Lib.hid (HN.out (by rw [hlow h2]; exact h5))
              have h6 : (((s[k]).toNat : Int) != 45) = true := by rw [bne, h5]; rfl
              clear hbad hgood hlow
              go_wp2_with fail
              go_ret
              exact ⟨ret_bool HV.out.symm, rfl⟩
            · have HG := Lib.hid (show midB (at_ s k) = true by rw [hlow h2]; exact h5)
              have h6 : (((s[k]).toNat : Int) != 45) = false := by rw [bne, h5]; rfl
              clear hbad hgood hlow
              go_wp2_with fail
              go_round
              case rel => exact ⟨k + 1, by omega, by go_num, Lib.hid (HS.out HG.out)⟩
              case measure => simp [intOf]; omega
        · have HV := Lib.hid (HY.out fun j hj => HA.out j (by omega))
          go_wp2_with fail
          go_ret
          exact ⟨ret_bool HV.out.symm, rfl⟩

set_option maxRecDepth 100000 in
theorem right_any (q : List ByteArray) (b off cp : Nat) (w : World) (hl : q.length ≤ 9223372036854775806) (_ : q.length ≤ cp) (hz : ∀ i, i < q.length → (nth q i).size ≤ 9223372036854775806) (hr : ∀ i, i < q.length → w.cell? ⟨b, off + i, none⟩ = some (.string (nth q i))) :
    Calls Tryz.prog 76 #[.slice (some ⟨b, off, none⟩) q.length cp] w fun e w' => e = .returned (.bool (q.all partB)) ∧ w = w' := by
  have HQ := Lib.hid hr
  have HZ := Lib.hid hz
  clear hr hz
  go_enter Tryz.func76, Tryz.ntmps76
  go_wp2_with fail
  go_loop [8] (fun i => ∃ k : Nat, k ≤ q.length ∧ i = .int .i64 k ∧ Hid (∀ j, j < k → partB (nth q j) = true)) (fun i => q.length - (intOf i).toNat)
  case atStart => exact ⟨0, Nat.zero_le _, rfl, Lib.hid (by intro j hj; omega)⟩
  case round =>
    obtain ⟨m, hm, rfl, HA⟩ := hrel
    by_cases hlt : m < q.length
    · have hc := HQ.out m hlt
      have hsz := HZ.out m hlt
      have HNO := Lib.hid (not_all_nth q partB m hlt)
      have HS := Lib.hid (show partB (nth q m) = true → ∀ j, j < m + 1 → partB (nth q j) = true from fun hm j hj => by
        rcases Nat.lt_or_ge j m with h | h
        · exact HA.out j h
        · obtain rfl : j = m := by omega
          exact hm)
      generalize nth q m = s at hc hsz HNO HS
      by_cases z1 : s.size < 1
      · have HV := Lib.hid (HNO.out (part_small s z1))
        go_wp2_with fail
        go_ret
        exact ⟨ret_bool HV.out.symm, rfl⟩
      by_cases z2 : 63 < s.size
      · have HV := Lib.hid (HNO.out (part_large s z2))
        go_wp2_with fail
        go_ret
        exact ⟨ret_bool HV.out.symm, rfl⟩
      go_wp2_with fail
      go_loop [22] (fun i => ∃ k : Nat, k ≤ s.size ∧ i = .int .i64 k ∧ Hid (∀ j, j < k → mayB (at_ s j) (j == 0 || j == s.size - 1) = true)) (fun i => s.size - (intOf i).toNat)
      case atStart => exact ⟨0, Nat.zero_le _, rfl, Lib.hid (by intro j hj; omega)⟩
      case round =>
        obtain ⟨k, hk, rfl, HB⟩ := hrel
        by_cases hlt2 : k < s.size
        · have HX := Lib.hid (at_get s k hlt2)
          have HN := Lib.hid (part_no s k hlt2)
          have HT := Lib.hid (show mayB (at_ s k) (k == 0 || k == s.size - 1) = true → ∀ j, j < k + 1 → mayB (at_ s j) (j == 0 || j == s.size - 1) = true from fun hm j hj => by
            rcases Nat.lt_or_ge j k with h | h
            · exact HB.out j h
            · obtain rfl : j = k := by omega
              exact hm)
          have hp : (((k : Int) == 0) = true ∧ (k == 0 || k == s.size - 1) = true) ∨ (((k : Int) == 0) = false ∧ ((k : Int) == (s.size : Int) - 1) = true ∧ (k == 0 || k == s.size - 1) = true) ∨ (((k : Int) == 0) = false ∧ ((k : Int) == (s.size : Int) - 1) = false ∧ (k == 0 || k == s.size - 1) = false) := by
            by_cases g0 : k = 0
            · left; subst g0; simp
            · by_cases g1 : k = s.size - 1
              · right; left
                refine ⟨beq_eq_false_iff_ne.2 (by omega), beq_iff_eq.2 (by omega), by simp [g1]⟩
              · right; right
                refine ⟨beq_eq_false_iff_ne.2 (by omega), beq_eq_false_iff_ne.2 (by omega), by simp; omega⟩
          rcases hp with ⟨g0, g2⟩ | ⟨g0, g1, g2⟩ | ⟨g0, g1, g2⟩
          all_goals
            rw [g2] at HN HT
            clear g2
          · cases hb : mayB (at_ s k) true
            · have HV := Lib.hid (HNO.out (HN.out hb))
              go_wp2_with (go_at_call 110; refine (may_any _ _ _).mono ?_; rintro e w' ⟨rfl, rfl⟩; rw [HX.out])
              go_ret
              exact ⟨ret_bool HV.out.symm, rfl⟩
            · have HG := Lib.hid (HT.out hb)
              go_wp2_with (go_at_call 110; refine (may_any _ _ _).mono ?_; rintro e w' ⟨rfl, rfl⟩; rw [HX.out])
              go_round
              case rel => exact ⟨k + 1, by omega, by go_num, HG⟩
              case measure => simp [intOf]; omega
          · cases hb : mayB (at_ s k) true
            · have HV := Lib.hid (HNO.out (HN.out hb))
              go_wp2_with (go_at_call 110; refine (may_any _ _ _).mono ?_; rintro e w' ⟨rfl, rfl⟩; rw [HX.out])
              go_ret
              exact ⟨ret_bool HV.out.symm, rfl⟩
            · have HG := Lib.hid (HT.out hb)
              go_wp2_with (go_at_call 110; refine (may_any _ _ _).mono ?_; rintro e w' ⟨rfl, rfl⟩; rw [HX.out])
              go_round
              case rel => exact ⟨k + 1, by omega, by go_num, HG⟩
              case measure => simp [intOf]; omega
          · cases hb : mayB (at_ s k) false
            · have HV := Lib.hid (HNO.out (HN.out hb))
              go_wp2_with (go_at_call 110; refine (may_any _ _ _).mono ?_; rintro e w' ⟨rfl, rfl⟩; rw [HX.out])
              go_ret
              exact ⟨ret_bool HV.out.symm, rfl⟩
            · have HG := Lib.hid (HT.out hb)
              go_wp2_with (go_at_call 110; refine (may_any _ _ _).mono ?_; rintro e w' ⟨rfl, rfl⟩; rw [HX.out])
              go_round
              case rel => exact ⟨k + 1, by omega, by go_num, HG⟩
              case measure => simp [intOf]; omega
        · have HG := Lib.hid (HS.out (part_yes s (by omega) (by omega) fun j hj => HB.out j (by omega)))
          go_wp2_with fail
          go_round
          case rel => exact ⟨m + 1, by omega, by go_num, HG⟩
          case measure => simp [intOf]; omega
    · have HV := Lib.hid (all_nth q partB fun j hj => HA.out j (by omega))
      go_wp2_with fail
      go_ret
      exact ⟨ret_bool HV.out.symm, rfl⟩
end Go.Proofs.YtngamlikhgilhaaGreatDoor
/- Canonical hosts: contracts of host.Canon and of the reference's. -/
namespace Go.Proofs.YtngamlikhgilhaaGreatDoor
open Go.RowKit

/-- A host in small letters, where it is one. -/
def canonS (s : ByteArray) : Option ByteArray := if s.size ≤ 64 ∧ (dots (lowS s)).all partB = true then some (lowS s) else none
def canonV (o : Option ByteArray) : Value := .tuple #[.string (o.getD ByteArray.empty), .bool o.isSome]
theorem Below.snoc {w w1 w2 : World} (h : Below w.heap.size w w1) (h2 : Below w1.heap.size w1 w2) : Below w.heap.size w w2 := h.trans (h2.mono h.size)
theorem Below.drawn {w w1 : World} (h : Below w.heap.size w w1) (n : Nat) : Below w.heap.size w (w1.drewN n) := ⟨h.os, h.tape, h.output, h.size, h.block⟩
/-- The variable MaxLen can be read. -/
def HasMax (w : World) : Prop := ∃ m, w.cell? ⟨0, 0, none⟩ = some (.int .i64 m)
theorem lowS_size (s : ByteArray) : (lowS s).size = s.size := by unfold lowS; rw [size_mk, List.length_map, size_bs]
theorem info9 : (Tryz.prog.info? 9).map (fun i => (i.zero, i.size, i.bytes)) = some (some (.string ⟨#[]⟩), 1, 16) := by kernel_rfl
theorem cell_lt {w : World} {p : Addr} {v : Value} (h : w.cell? p = some v) : p.block < w.heap.size := by
  unfold World.cell? at h
  rcases Nat.lt_or_ge p.block w.heap.size with h1 | h1
  · exact h1
  · rw [Array.getElem?_eq_none h1] at h
    cases h
theorem max_keep {w w' : World} (h : HasMax w) (hb : Below w.heap.size w w') : HasMax w' := by
  obtain ⟨m, hm⟩ := h
  refine ⟨m, ?_⟩
  rw [hb.cell (cell_lt hm)]
  exact hm
theorem split_any (s : ByteArray) (w : World) (hs : s.size < 4294967281) (hm : HasMax w) :
    Calls Tryz.prog 77 #[.string s, .string ⟨#[46]⟩] w fun e w' => e = .returned (.slice (some ⟨w.heap.size, 0, none⟩) (dots s).length (dots s).length) ∧ w.alloc (.cells ((dots s).map Value.string).toArray 9) = w' := by
  obtain ⟨m, hm⟩ := hm
  refine (Any.strings_Split Tryz.lays146 info9 s ⟨#[46]⟩ m w hs hm (by decide)).mono ?_
  rintro e w' ⟨rfl, rfl⟩
  rw [dots_len, ← split_all s]
  exact ⟨rfl, rfl⟩

theorem get_bs (t : ByteArray) (k : Nat) (h : k < t.size) : t[k] = (bs t)[k]'(by rw [← size_bs]; exact h) := rfl
theorem bs_get (s : ByteArray) (k : Nat) (h : k < s.size) : (bs s)[k]? = some s[k] := by
  rw [List.getElem?_eq_getElem (by rw [← size_bs]; exact h)]
  rfl
def DotsAt (s : ByteArray) (q : List ByteArray) (f k : Nat) : Prop := cuts 46 (bs s) = q.map bs ++ cuts 46 ((bs s).drop f) ∧ ∀ j, f ≤ j → j < k → (bs s)[j]? ≠ some 46
theorem dotsAt_skip {s : ByteArray} {q : List ByteArray} {f k : Nat} (h : DotsAt s q f k) (hk : k < s.size) (hc : (((s[k]).toNat : Int) == 46) = false) : DotsAt s q f (k + 1) := by
  refine ⟨h.1, fun j h1 h2 => ?_⟩
  rcases Nat.lt_or_ge j k with h3 | h3
  · exact h.2 j h1 h3
  · obtain rfl : j = k := by omega
    rw [bs_get s j hk]
    intro e
    injection e with e
    rw [e] at hc
    simp at hc
theorem dotsAt_cut {s : ByteArray} {q : List ByteArray} {f k : Nat} (h : DotsAt s q f k) (hf : f ≤ k) (hk : k < s.size) (hc : (((s[k]).toNat : Int) == 46) = true) : DotsAt s (q ++ [s.extract f k]) (k + 1) (k + 1) := by
  have he : (bs s)[k]? = some 46 := by
    rw [bs_get s k hk]
    have h1 : (s[k]).toNat = 46 := by have := beq_iff_eq.1 hc; omega
    congr 1
    exact UInt8.toNat_inj.1 h1
  have hF : FirstAt ((bs s).drop f) 46 (k - f) := by
    refine ⟨by rw [List.getElem?_drop, show f + (k - f) = k by omega]; exact he, fun j hj => ?_⟩
    rw [List.getElem?_drop]
    exact h.2 (f + j) (by omega) (by omega)
  refine ⟨?_, fun j h1 h2 => by omega⟩
  rw [h.1, cuts_first 46 _ _ hF, List.map_append, List.append_assoc]
  congr 1
  rw [List.drop_drop, show f + (k - f + 1) = k + 1 by omega]
  simp [bs_extract, List.take_drop, show f + (k - f) = k by omega]
theorem dotsAt_end {s : ByteArray} {q : List ByteArray} {f k : Nat} (h : DotsAt s q f k) (hk : s.size ≤ k) : dots s = q ++ [s.extract f s.size] := by
  have hn : ∀ j : Nat, ((bs s).drop f)[j]? ≠ some 46 := fun j => by
    rw [List.getElem?_drop]
    rcases Nat.lt_or_ge (f + j) k with h3 | h3
    · exact h.2 _ (by omega) h3
    · rw [List.getElem?_eq_none (by rw [← size_bs]; omega)]
      simp
  have e : s.extract f s.size = mk ((bs s).drop f) := by
    apply bs_inj
    rw [bs_extract, bs_mk, List.take_of_length_le (by rw [← size_bs]; exact Nat.le_refl _)]
  rw [dots, h.1, cuts_none 46 _ hn, e, List.map_append, List.map_map]
  rw [show (mk ∘ bs) = id from funext mk_bs]
  simp
theorem dotsAt_start (s : ByteArray) : DotsAt s [] 0 0 := ⟨by simp, fun j _ h => by omega⟩
theorem one_strings (q : List ByteArray) : ∀ u ∈ q.map Value.string, u.oneCell' = true := by
  intro u hu
  obtain ⟨_, _, rfl⟩ := List.mem_map.1 hu
  rfl
/-- The value's texts can be read. -/
def RS (w : World) (v : Value) (q : List ByteArray) : Prop := ∃ b cp, v = .slice (some ⟨b, 0, none⟩) q.length cp ∧ q.length ≤ cp ∧ ∀ i, i < q.length → w.cell? ⟨b, 0 + i, none⟩ = some (.string (nth q i))
theorem RS.of_owns {w : World} {B : Nat} {v : Value} {q : List ByteArray} (hq : q ≠ []) (h : w.ownsRow B 9 1 v q.length (q.map Value.string)) : RS w v q := by
  obtain ⟨h1, ⟨rfl, h2⟩ | ⟨g, cap, cur, rfl, hb, hh, hn, hm, hs, ht⟩⟩ := h
  · exact absurd (List.length_eq_zero_iff.1 h2) hq
  · refine ⟨g, cap, rfl, hn, fun i hi => ?_⟩
    have h3 : (cur.toList.take (q.length * 1))[i]? = (q.map Value.string)[i]? := by rw [ht]
    rw [Nat.mul_one, List.getElem?_take_of_lt hi, List.getElem?_map, List.getElem?_eq_getElem hi] at h3
    simp only [World.cell?, hh]
    simp at h3 ⊢
    rw [h3]
    simp [nth, hi]
/-- What Parts hands back. -/
def RPost (w : World) (s : ByteArray) (e : Ending) (w' : World) : Prop := ∃ v, e = .returned v ∧ Below w.heap.size w w' ∧ RS w' v (dots s)

set_option maxRecDepth 100000 in
theorem hostparts_any (s : ByteArray) (w : World) (hs : s.size ≤ 64) : Calls Tryz.prog 83 #[.string s] w (RPost w s) := by
  obtain ⟨i0, hi, hz0, hz1, hz2⟩ := info_parts info9
  have own0 : w.ownsRow w.heap.size 9 1 (.slice none 0 0) 0 [] := World.ownsRow_nil w _ _ _
  go_enter Tryz.func83, Tryz.ntmps83
  go_wp2_with fail
  go_loopw [3, 4, 5] (fun v f i wr => ∃ (k f0 : Nat) (q : List ByteArray), k ≤ s.size ∧ f0 ≤ k ∧ f = .int .i64 f0 ∧ i = .int .i64 k ∧ Hid (DotsAt s q f0 k) ∧ q.length ≤ k ∧ wr.ownsRow w.heap.size 9 1 v q.length (q.map Value.string) ∧ Below w.heap.size w wr) (fun _ _ i _ => s.size - (intOf i).toNat)
  case atStart => exact ⟨0, 0, [], Nat.zero_le _, Nat.le_refl _, rfl, rfl, Lib.hid (dotsAt_start s), Nat.le_refl _, own0, Below.refl _ _⟩
  case round =>
    obtain ⟨k, f0, q, hk, hf, rfl, rfl, HR, hq, hown, hb⟩ := hrel
    clear own0
    have hz := hb.size
    by_cases hlt : k < s.size
    · cases hc : (((s[k]).toNat : Int) == 46)
      case false =>
        have H2 := Lib.hid (dotsAt_skip HR.out hlt hc)
        go_wp2_with fail
        go_roundw
        case rel => exact ⟨k + 1, f0, q, by omega, by omega, rfl, by go_num, H2, by omega, hown, hb⟩
        case measure => simp [intOf]; omega
      case true =>
        have H2 := Lib.hid (dotsAt_cut HR.out hf hlt hc)
        have own1 := hown.alloc (.cells #[.string (s.extract f0 k)] 9)
        clear hown
        go_wp2_with (at_builtin; refine wpList_append_own _ rfl (.tmp 16) (.tmp 21) 60 rfl w.heap.size 9 i0 (.string ⟨#[]⟩) 1 16 Tryz.underlying60 hi hz0 hz1 hz2 rfl (by decide) u3 q.length (q.map Value.string) rfl own1 ⟨wr.heap.size, 0, none⟩ 1 1 [.string (s.extract f0 k)] rfl ?c1 ?c2 ?c3 ?c4 ?c5 ?c6 ?_)
        case c1 => simp
        case c2 => exact cell_one_new _ _ _
        case c3 => intro u hu; simp at hu; subst hu; rfl
        case c4 => unfold maxLen; omega
        case c5 => omega
        case c6 => simp; omega
        intro v2 w2 hown2 hg2 hne2
        have hb2 : Below w.heap.size w w2 := (hb.alloc hz _).grown hg2 (by simp; omega) (fun k hk => (own1.lt k hk).1)
        clear hg2 hne2 own1
        go_wp2_with fail
        go_roundw
        case rel => exact ⟨k + 1, k + 1, q ++ [s.extract f0 k], by omega, by omega, by go_num, by go_num, H2, by simp; omega, by simpa using hown2, hb2⟩
        case measure => simp [intOf]; omega
    · have H2 := Lib.hid (dotsAt_end HR.out (by omega))
      have own1 := hown.alloc (.cells #[.string (s.extract f0 s.size)] 9)
      clear hown
      go_wp2_with (at_builtin; refine wpList_append_own _ rfl (.tmp 25) (.tmp 29) 60 rfl w.heap.size 9 i0 (.string ⟨#[]⟩) 1 16 Tryz.underlying60 hi hz0 hz1 hz2 rfl (by decide) u3 q.length (q.map Value.string) rfl own1 ⟨wr.heap.size, 0, none⟩ 1 1 [.string (s.extract f0 s.size)] rfl ?c1 ?c2 ?c3 ?c4 ?c5 ?c6 ?_)
      case c1 => simp
      case c2 => exact cell_one_new _ _ _
      case c3 => intro u hu; simp at hu; subst hu; rfl
      case c4 => unfold maxLen; omega
      case c5 => omega
      case c6 => simp; omega
      intro v2 w2 hown2 hg2 hne2
      have hb2 : Below w.heap.size w w2 := (hb.alloc hz _).grown hg2 (by simp; omega) (fun k hk => (own1.lt k hk).1)
      clear hg2 hne2 own1
      go_wp2_with fail
      go_ret
      refine ⟨_, rfl, hb2, ?_⟩
      rw [H2.out]
      exact RS.of_owns (by simp) (by simpa using hown2)
end Go.Proofs.YtngamlikhgilhaaGreatDoor
/- Canonical hosts: contracts of host.Canon and of the reference's, second text. -/
namespace Go.Proofs.YtngamlikhgilhaaGreatDoor
open Go.RowKit

theorem canon_long {s : ByteArray} (h : 64 < s.size) : canonS s = none := if_neg fun h' => by omega
theorem canon_no {s : ByteArray} (h : (dots (lowS s)).all partB = false) : canonS s = none := if_neg fun h' => by rw [h] at h'; simp at h'
theorem canon_yes {s : ByteArray} (h1 : s.size ≤ 64) (h : (dots (lowS s)).all partB = true) : canonS s = some (lowS s) := if_pos ⟨h1, h⟩
theorem canon_short {s : ByteArray} (h : s.size < 1) : canonS s = none := by
  refine canon_no ?_
  have h0 : lowS s = ⟨#[]⟩ := by
    apply bs_inj
    unfold lowS
    rw [bs_mk, List.eq_nil_of_length_eq_zero (by rw [← size_bs]; omega : (bs s).length = 0)]
    rfl
  rw [h0]
  decide
theorem canonV_none {s : ByteArray} (h : canonS s = none) : canonV (canonS s) = .tuple #[.string ByteArray.empty, .bool false] := by rw [h]; rfl
theorem canonV_some {s t : ByteArray} (h : canonS s = some t) : canonV (canonS s) = .tuple #[.string t, .bool true] := by rw [h]; rfl
theorem fresh_texts (W : World) (q : List ByteArray) : ∀ i, i < q.length → (W.alloc (.cells (q.map Value.string).toArray 9)).cell? ⟨W.heap.size, 0 + i, none⟩ = some (.string (nth q i)) := by
  intro i hi
  have h1 := heap_alloc_new W (.cells (q.map Value.string).toArray 9)
  simp only [World.cell?, h1]
  simp [hi, nth]
theorem nth_mem {q : List ByteArray} {i : Nat} (h : i < q.length) : nth q i ∈ q := by rw [nth_lt h]; exact List.getElem_mem h

set_option maxRecDepth 100000 in
theorem canon_any (s : ByteArray) (w : World) (hs : s.size ≤ 9223372036854775806) (hm : HasMax w) :
    Calls Tryz.prog 35 #[.string s] w fun e w' => e = .returned (canonV (canonS s)) ∧ Below w.heap.size w w' := by
  have HM := Lib.hid hm
  clear hm
  by_cases h64 : 64 < s.size
  · have HV := Lib.hid (canonV_none (canon_long h64))
    go_enter Tryz.func35, Tryz.ntmps35
    go_wp2_with fail
    go_ret2
    exact ⟨by rw [HV.out]; rfl, Below.refl _ _⟩
  · have hz : (lowS s).size ≤ 64 := by rw [lowS_size]; omega
    have HZ := Lib.hid hz
    have HQ := Lib.hid (dots_sizes (lowS s))
    have HL := Lib.hid (dots_len (lowS s))
    have HC := Lib.hid (Lib.countB_le ⟨#[46]⟩ (by decide) _ (lowS s) (Nat.le_refl _))
    clear hz
    go_enter Tryz.func35, Tryz.ntmps35
    go_wp2_with fail
    refine (lower_any s _ (by omega)).mono ?_
    rintro e w1 ⟨rfl, hb1⟩
    have HM1 := Lib.hid (max_keep HM.out hb1)
    go_wp2_with fail
    refine (split_any (lowS s) _ (by have := HZ.out; omega) HM1.out).mono ?_
    rintro e w2 ⟨rfl, rfl⟩
    go_wp2_with fail
    refine (right_any (dots (lowS s)) w1.heap.size 0 _ _ (by have := HZ.out; have := HL.out; have := HC.out; omega) (Nat.le_refl _) (fun i hi => by have := HQ.out _ (nth_mem hi); have := HZ.out; omega) (fresh_texts w1 _)).mono ?_
    rintro e w3 ⟨rfl, rfl⟩
    have hb2 : Below w.heap.size w (w1.alloc (.cells ((dots (lowS s)).map Value.string).toArray 9)) := hb1.alloc hb1.size _
    cases hp : (dots (lowS s)).all partB
    · have HV := Lib.hid (canonV_none (canon_no hp))
      go_wp2_with fail
      go_ret2
      exact ⟨by rw [HV.out]; rfl, hb2⟩
    · have HV := Lib.hid (canonV_some (canon_yes (by omega) hp))
      go_wp2_with fail
      go_ret2
      exact ⟨by rw [HV.out]; rfl, hb2⟩

set_option maxRecDepth 100000 in
theorem rcanon_any (s : ByteArray) (w : World) (hs : s.size ≤ 9223372036854775806) :
    Calls Tryz.prog 40 #[.string s] w fun e w' => e = .returned (canonV (canonS s)) ∧ Below w.heap.size w w' := by
  have HLS := Lib.hid (lowS_size s)
  by_cases h64 : 64 < s.size
  · have HV := Lib.hid (canonV_none (canon_long h64))
    have z1 : 64 < (lowS s).size := by rw [lowS_size]; exact h64
    go_enter Tryz.func40, Tryz.ntmps40
    go_wp2_with fail
    refine (rlower_any s _ (by omega)).mono ?_
    rintro e w1 ⟨rfl, hb1⟩
    go_wp2_with fail
    go_ret2
    exact ⟨by rw [HV.out]; rfl, hb1⟩
  by_cases h1 : s.size < 1
  · have HV := Lib.hid (canonV_none (canon_short h1))
    have z1 : (lowS s).size < 1 := by rw [lowS_size]; exact h1
    go_enter Tryz.func40, Tryz.ntmps40
    go_wp2_with fail
    refine (rlower_any s _ (by omega)).mono ?_
    rintro e w1 ⟨rfl, hb1⟩
    go_wp2_with fail
    go_ret2
    exact ⟨by rw [HV.out]; rfl, hb1⟩
  have z1 : (lowS s).size ≤ 64 := by rw [lowS_size]; omega
  have z2 : 1 ≤ (lowS s).size := by rw [lowS_size]; omega
  have HNO := Lib.hid (show ((dots (lowS s)).all partB = false → canonV (canonS s) = .tuple #[.string ByteArray.empty, .bool false]) from fun h => canonV_none (canon_no h))
  have HYES := Lib.hid (show ((dots (lowS s)).all partB = true → canonV (canonS s) = .tuple #[.string (lowS s), .bool true]) from fun h => canonV_some (canon_yes (by omega) h))
  have HQ := Lib.hid (dots_sizes (lowS s))
  have hlen : (dots (lowS s)).length ≤ 65 := by
    have h2 := dots_len (lowS s)
    have h3 := Lib.countB_le ⟨#[46]⟩ (by decide) _ (lowS s) (Nat.le_refl _)
    omega
  go_enter Tryz.func40, Tryz.ntmps40
  go_wp2_with fail
  refine (rlower_any s _ (by omega)).mono ?_
  rintro e w1 ⟨rfl, hb1⟩
  go_wp2_with fail
  refine (hostparts_any (lowS s) _ z1).mono ?_
  rintro e w2 ⟨v, rfl, hb2, b, cp, rfl, hcp, hr⟩
  have hB := Below.snoc hb1 hb2
  clear hb1 hb2
  have HR := Lib.hid hr
  clear hr
  generalize hq : dots (lowS s) = q at HNO HYES HQ hlen hcp HR ⊢
  clear hq
  go_wp2_with fail
  go_loop [5] (fun i => ∃ k : Nat, k ≤ q.length ∧ i = .int .i64 k ∧ Hid (∀ j, j < k → partB (nth q j) = true)) (fun i => q.length - (intOf i).toNat)
  case atStart => exact ⟨0, Nat.zero_le _, rfl, Lib.hid (by intro j hj; omega)⟩
  case round =>
    obtain ⟨k, hk, rfl, HA⟩ := hrel
    by_cases hlt : k < q.length
    · have hc : w2.cell? ⟨b, k, none⟩ = some (.string (nth q k)) := by have := HR.out k hlt; rwa [Nat.zero_add] at this
      have hsz : (nth q k).size ≤ 9223372036854775807 := by have := HQ.out _ (nth_mem hlt); omega
      have HN := Lib.hid (not_all_nth q partB k hlt)
      have HS := Lib.hid (show partB (nth q k) = true → ∀ j, j < k + 1 → partB (nth q j) = true from fun hm j hj => by
        rcases Nat.lt_or_ge j k with h | h
        · exact HA.out j h
        · obtain rfl : j = k := by omega
          exact hm)
      generalize nth q k = t at hc hsz HN HS
      cases hp : partB t
      · have HV := Lib.hid (HNO.out (HN.out hp))
        go_wp2_with (go_at_call 84; refine (rpart_any t _ hsz).mono ?_; rintro e w' ⟨rfl, rfl⟩)
        go_ret2
        exact ⟨by rw [HV.out]; rfl, hB⟩
      · have HG := Lib.hid (HS.out hp)
        go_wp2_with (go_at_call 84; refine (rpart_any t _ hsz).mono ?_; rintro e w' ⟨rfl, rfl⟩)
        go_round
        case rel => exact ⟨k + 1, by omega, by go_num, HG⟩
        case measure => simp [intOf]; omega
    · have HV := Lib.hid (HYES.out (all_nth q partB fun j hj => HA.out j (by omega)))
      go_wp2_with fail
      go_ret2
      exact ⟨by rw [HV.out]; rfl, hB⟩
end Go.Proofs.YtngamlikhgilhaaGreatDoor
/- Paths: contracts of strings' prefixes, of package path and of its reference, first text. -/
namespace Go.Proofs.YtngamlikhgilhaaGreatDoor
open Go.RowKit

def preB (s p : ByteArray) : Bool := decide (p.size ≤ s.size) && ((s.extract 0 p.size).toList == p.toList)
set_option maxRecDepth 100000 in
theorem hasPrefix_any (s p : ByteArray) (w : World) (_ : s.size ≤ 9223372036854775807) : Calls Tryz.prog 61 #[.string s, .string p] w fun e w' => e = .returned (.bool (preB s p)) ∧ w = w' := by
  by_cases h : p.size ≤ s.size
  · cases hb : ((s.extract 0 p.size).toList == p.toList)
    all_goals
      have HV := Lib.hid (show preB s p = ((s.extract 0 p.size).toList == p.toList) by unfold preB; rw [decide_eq_true h, Bool.true_and])
      go_enter Tryz.func61, Tryz.ntmps61
      go_wp2_with fail
      go_ret
      exact ⟨ret_bool (HV.out.trans hb).symm, rfl⟩
  · have HV := Lib.hid (show preB s p = false by unfold preB; rw [decide_eq_false h]; rfl)
    go_enter Tryz.func61, Tryz.ntmps61
    go_wp2_with fail
    go_ret
    exact ⟨ret_bool HV.out.symm, rfl⟩
theorem pre_size {s p : ByteArray} (h : preB s p = true) : p.size ≤ s.size := by
  unfold preB at h
  rw [Bool.and_eq_true] at h
  exact of_decide_eq_true h.1
/-- What is behind a beginning, or all. -/
def cutS (s p : ByteArray) : ByteArray := if preB s p then s.extract p.size s.size else s
set_option maxRecDepth 100000 in
theorem lcut_any (s p : ByteArray) (w : World) (hs : s.size ≤ 9223372036854775807) : Calls Tryz.prog 91 #[.string s, .string p] w fun e w' => e = .returned (.tuple #[.string (cutS s p), .bool (preB s p)]) ∧ w = w' := by
  cases h : preB s p
  · have H := Lib.hid h
    have HC := Lib.hid (show cutS s p = s by unfold cutS; rw [h]; rfl)
    clear h
    go_enter Tryz.func91, Tryz.ntmps91
    go_wp2_with fail
    refine (hasPrefix_any s p _ hs).mono ?_
    rintro e w1 ⟨rfl, rfl⟩
    rw [H.out]
    go_wp2_with fail
    go_ret2
    exact ⟨by rw [HC.out]; rfl, rfl⟩
  · have hz := pre_size h
    have H := Lib.hid h
    have HC := Lib.hid (show cutS s p = s.extract p.size s.size by unfold cutS; rw [h]; rfl)
    clear h
    go_enter Tryz.func91, Tryz.ntmps91
    go_wp2_with fail
    refine (hasPrefix_any s p _ hs).mono ?_
    rintro e w1 ⟨rfl, rfl⟩
    rw [H.out]
    go_wp2_with fail
    go_ret2
    exact ⟨by rw [HC.out]; rfl, rfl⟩
set_option maxRecDepth 100000 in
theorem cutPrefix_any (s p : ByteArray) (w : World) (hs : s.size ≤ 9223372036854775807) : Calls Tryz.prog 56 #[.string s, .string p] w fun e w' => e = .returned (.tuple #[.string (cutS s p), .bool (preB s p)]) ∧ w = w' := by
  go_enter Tryz.func56, Tryz.ntmps56
  go_wp2_with fail
  refine (lcut_any s p _ hs).mono ?_
  rintro e w1 ⟨rfl, rfl⟩
  go_wp2_with fail
  go_ret2
  exact ⟨rfl, rfl⟩

/-- Does a text end with a slash? -/
def endB (c : ByteArray) : Bool := decide (1 ≤ c.size) && ((c.extract (c.size - 1) c.size).toList == [47])
theorem end_at (c : ByteArray) (h : 0 < c.size) (h2 : c.size - 1 < c.size) : endB c = (((c[c.size - 1]).toNat : Int) == 47) := by
  unfold endB
  rw [decide_eq_true (show 1 ≤ c.size by omega), Bool.true_and, tl_bs]
  have e1 : bs (c.extract (c.size - 1) c.size) = [c[c.size - 1]] := by
    rw [bs_extract, List.take_of_length_le (by rw [← size_bs]; exact Nat.le_refl _), List.drop_eq_getElem_cons (by rw [← size_bs]; exact h2), List.drop_of_length_le (by rw [← size_bs]; omega)]
    rfl
  rw [e1]
  rw [Bool.eq_iff_iff, beq_iff_eq, beq_iff_eq]
  show [c[c.size - 1]] = [47] ↔ _
  constructor
  · intro h; injection h with h; rw [h]; rfl
  · intro h
    congr 1
    exact UInt8.toNat_inj.1 (by have : (47 : UInt8).toNat = 47 := rfl; omega)
theorem end_no {c : ByteArray} (h : c.size = 0) : endB c = false := by
  unfold endB
  rw [decide_eq_false (by omega)]
  rfl
/-- Is a text a path? -/
def pathB (s : ByteArray) : Bool := decide (1 ≤ s.size) && decide (s.size ≤ 64) && (at_ s 0 == 47) && allB plainB s
set_option maxRecDepth 100000 in
theorem pright_any (s : ByteArray) (w : World) (hs : s.size ≤ 9223372036854775807) : Calls Tryz.prog 36 #[.string s] w fun e w' => e = .returned (.bool (pathB s)) ∧ w = w' := by
  by_cases h1 : 1 ≤ s.size
  · by_cases h2 : s.size ≤ 64
    · have h0 : 0 < s.size := h1
      have hx := at_get s 0 h0
      cases hb : (((s[0]'h0).toNat : Int) == 47)
      · have HV := Lib.hid (show pathB s = false by unfold pathB; rw [← hx, hb]; simp)
        clear hx
        go_enter Tryz.func36, Tryz.ntmps36
        go_wp2_with fail
        go_ret
        exact ⟨ret_bool HV.out.symm, rfl⟩
      · have HV := Lib.hid (show pathB s = allB plainB s by unfold pathB; rw [← hx, hb, decide_eq_true h1, decide_eq_true h2]; rfl)
        clear hx
        go_enter Tryz.func36, Tryz.ntmps36
        go_wp2_with fail
        refine (plain_any s _ hs).mono ?_
        rintro e w1 ⟨rfl, rfl⟩
        go_wp2_with fail
        go_ret
        exact ⟨ret_bool HV.out.symm, rfl⟩
    · have HV := Lib.hid (show pathB s = false by unfold pathB; rw [decide_eq_false h2]; simp)
      go_enter Tryz.func36, Tryz.ntmps36
      go_wp2_with fail
      go_ret
      exact ⟨ret_bool HV.out.symm, rfl⟩
  · have HV := Lib.hid (show pathB s = false by unfold pathB; rw [decide_eq_false h1]; simp)
    go_enter Tryz.func36, Tryz.ntmps36
    go_wp2_with fail
    go_ret
    exact ⟨ret_bool HV.out.symm, rfl⟩
set_option maxRecDepth 100000 in
theorem rright_any (s : ByteArray) (w : World) (hs : s.size ≤ 9223372036854775807) : Calls Tryz.prog 41 #[.string s] w fun e w' => e = .returned (.bool (pathB s)) ∧ w = w' := by
  by_cases h1 : 1 ≤ s.size
  · by_cases h2 : s.size ≤ 64
    · have h0 : 0 < s.size := h1
      have hx := at_get s 0 h0
      cases hb : (((s[0]'h0).toNat : Int) == 47)
      · have HV := Lib.hid (show pathB s = false by unfold pathB; rw [← hx, hb]; simp)
        clear hx
        go_enter Tryz.func41, Tryz.ntmps41
        go_wp2_with fail
        go_ret
        exact ⟨ret_bool HV.out.symm, rfl⟩
      · have HV := Lib.hid (show pathB s = allB plainB s by unfold pathB; rw [← hx, hb, decide_eq_true h1, decide_eq_true h2]; rfl)
        clear hx
        go_enter Tryz.func41, Tryz.ntmps41
        go_wp2_with fail
        refine (rplain_any s _ hs).mono ?_
        rintro e w1 ⟨rfl, rfl⟩
        go_wp2_with fail
        go_ret
        exact ⟨ret_bool HV.out.symm, rfl⟩
    · have HV := Lib.hid (show pathB s = false by unfold pathB; rw [decide_eq_false h2]; simp)
      go_enter Tryz.func41, Tryz.ntmps41
      go_wp2_with fail
      go_ret
      exact ⟨ret_bool HV.out.symm, rfl⟩
  · have HV := Lib.hid (show pathB s = false by unfold pathB; rw [decide_eq_false h1]; simp)
    go_enter Tryz.func41, Tryz.ntmps41
    go_wp2_with fail
    go_ret
    exact ⟨ret_bool HV.out.symm, rfl⟩
end Go.Proofs.YtngamlikhgilhaaGreatDoor
