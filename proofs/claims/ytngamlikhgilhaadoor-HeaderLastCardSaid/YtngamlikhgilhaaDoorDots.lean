/- What stands between the dots: the plain law, for strings.Split and for the reference's loop. No program. -/
import Derived.Test.YtngamlikhgilhaaDoorBytes
import Derived.Lib.SplitLaws
import Derived.Lib.IndexBytes
namespace Go.Proofs.YtngamlikhgilhaaDoor

def FirstAt (l : List UInt8) (c : UInt8) (k : Nat) : Prop := l[k]? = some c ∧ ∀ j, j < k → l[j]? ≠ some c
/-- The pieces between the instances of a byte. -/
def cuts (c : UInt8) : List UInt8 → List (List UInt8)
  | [] => [[]]
  | x :: l => if x = c then [] :: cuts c l else match cuts c l with
    | [] => [[x]]
    | h :: t => (x :: h) :: t
theorem cuts_ne (c : UInt8) (l : List UInt8) : cuts c l ≠ [] := by
  cases l with
  | nil => simp [cuts]
  | cons x l =>
    unfold cuts
    split
    · simp
    · split <;> simp
theorem cuts_none (c : UInt8) (l : List UInt8) (h : ∀ k : Nat, l[k]? ≠ some c) : cuts c l = [l] := by
  induction l with
  | nil => rfl
  | cons x l ih =>
    have hx : x ≠ c := fun e => h 0 (by simp [e])
    have hl := ih fun k => by have := h (k + 1); simpa using this
    unfold cuts
    rw [if_neg hx, hl]
theorem cuts_first (c : UInt8) (l : List UInt8) (k : Nat) (h : FirstAt l c k) : cuts c l = l.take k :: cuts c (l.drop (k + 1)) := by
  induction l generalizing k with
  | nil => simp [FirstAt] at h
  | cons x l ih =>
    cases k with
    | zero =>
      have hx : x = c := by simpa [FirstAt] using h
      rw [show cuts c (x :: l) = [] :: cuts c l by rw [cuts, if_pos hx]]
      simp
    | succ k =>
      have hx : x ≠ c := fun e => h.2 0 (by omega) (by simp [e])
      have hl := ih k ⟨by simpa using h.1, fun j hj => by have := h.2 (j + 1) (by omega); simpa using this⟩
      rw [cuts, if_neg hx, hl]
      simp
theorem cuts_len (c : UInt8) (l : List UInt8) : (cuts c l).length = l.count c + 1 := by
  induction l with
  | nil => rfl
  | cons x l ih =>
    unfold cuts
    split
    · rename_i hx
      rw [List.length_cons, ih, hx, List.count_cons_self]
    · rename_i hx
      rw [List.count_cons_of_ne hx]
      split
      · rename_i h0; exact absurd h0 (cuts_ne c l)
      · rename_i a b h0
        rw [h0] at ih
        simpa using ih
theorem cuts_sizes (c : UInt8) (l : List UInt8) : ∀ x ∈ cuts c l, x.length ≤ l.length := by
  induction l with
  | nil => simp [cuts]
  | cons y l ih =>
    unfold cuts
    split
    · intro x hx
      rw [List.mem_cons] at hx
      rcases hx with rfl | hx
      · simp
      · have := ih x hx; simp; omega
    · split
      · rename_i h0; exact absurd h0 (cuts_ne c l)
      · rename_i a b h0
        intro x hx
        rw [h0] at ih
        rw [List.mem_cons] at hx
        rcases hx with rfl | hx
        · have := ih a (List.mem_cons_self ..); simp; omega
        · have := ih x (List.mem_cons_of_mem _ hx); simp; omega

theorem ix_none {l : List UInt8} {c : UInt8} (h : Lib.indexByte l c = -1) : ∀ k : Nat, l[k]? ≠ some c := Lib.indexByte_none h
/-- The texts between the dots. -/
def dots (s : ByteArray) : List ByteArray := (cuts 46 (bs s)).map mk
theorem split_dots : ∀ (n : Nat) (s : ByteArray), (bs s).count 46 ≤ n → Lib.splitB ⟨#[46]⟩ 0 n s = dots s := by
  intro n
  induction n with
  | zero =>
    intro s h
    have hn : ∀ k : Nat, (bs s)[k]? ≠ some 46 := fun k hk => by
      have : 46 ∈ bs s := List.mem_of_getElem? hk
      have := List.count_pos_iff.2 this
      omega
    rw [Lib.splitB_zero, dots, cuts_none 46 _ hn]
    simp [mk_bs]
  | succ n ih =>
    intro s h
    have h1 := Lib.one s ⟨#[46]⟩ rfl
    have h2 : Lib.indexB s ⟨#[46]⟩ = Lib.indexByte (bs s) 46 := h1
    by_cases h3 : Lib.indexByte (bs s) 46 = -1
    · rw [Lib.splitB_miss _ _ _ _ (h2.trans h3), dots, cuts_none 46 _ (Lib.indexByte_none h3)]
      simp [mk_bs]
    · have h4 := Lib.indexByte_ge (bs s) 46
      obtain ⟨k, hk⟩ := Int.eq_ofNat_of_zero_le (show 0 ≤ Lib.indexByte (bs s) 46 by omega)
      have hf : FirstAt (bs s) 46 k := Lib.indexByte_some hk
      rw [Lib.splitB_hit _ _ _ _ k (h2.trans hk)]
      have e1 : bs (s.extract (k + 1) s.size) = (bs s).drop (k + 1) := by rw [bs_extract, List.take_of_length_le (by rw [← size_bs]; exact Nat.le_refl _)]
      have e2 : s.extract 0 (k + 0) = mk ((bs s).take k) := by apply bs_inj; rw [bs_extract, bs_mk]; simp
      rw [e2]
      show mk ((bs s).take k) :: Lib.splitB ⟨#[46]⟩ 0 n (s.extract (k + 1) s.size) = dots s
      rw [ih (s.extract (k + 1) s.size) (by
        rw [e1]
        have hc : (bs s).count 46 = ((bs s).take k).count 46 + (((bs s).drop k)).count 46 := by rw [← List.count_append, List.take_append_drop]
        have hlt : k < (bs s).length := (List.getElem?_eq_some_iff.1 hf.1).1
        have he : (bs s)[k] = 46 := by have := hf.1; rw [List.getElem?_eq_getElem hlt] at this; injection this
        rw [List.drop_eq_getElem_cons hlt, he, List.count_cons_self] at hc
        omega)]
      rw [dots, dots, e1, cuts_first 46 _ k hf, List.map_cons]
theorem count_dots (s : ByteArray) : Lib.countB s ⟨#[46]⟩ = (bs s).count 46 := by
  have h := Lib.splitB_all ⟨#[46]⟩ (by decide) 0 _ s rfl
  have : ∀ (m : Nat) (s : ByteArray), s.size ≤ m → Lib.countB s ⟨#[46]⟩ = (bs s).count 46 := by
    intro m
    induction m with
    | zero =>
      intro s hs
      have h0 : bs s = [] := List.eq_nil_of_length_eq_zero (by rw [← size_bs]; omega)
      have h1 := Lib.one s ⟨#[46]⟩ rfl
      have h2 : Lib.indexB s ⟨#[46]⟩ = Lib.indexByte (bs s) 46 := h1
      rw [Lib.countB_miss s _ (by rw [h2, h0]; rfl), h0]
      rfl
    | succ m ih =>
      intro s hs
      have h1 := Lib.one s ⟨#[46]⟩ rfl
      have h2 : Lib.indexB s ⟨#[46]⟩ = Lib.indexByte (bs s) 46 := h1
      by_cases h3 : Lib.indexByte (bs s) 46 = -1
      · rw [Lib.countB_miss s _ (h2.trans h3)]
        symm
        rw [List.count_eq_zero]
        intro hm
        obtain ⟨k, hk⟩ := List.getElem?_of_mem hm
        exact Lib.indexByte_none h3 k hk
      · have h4 := Lib.indexByte_ge (bs s) 46
        obtain ⟨k, hk⟩ := Int.eq_ofNat_of_zero_le (show 0 ≤ Lib.indexByte (bs s) 46 by omega)
        have hf : FirstAt (bs s) 46 k := Lib.indexByte_some hk
        have e1 : bs (s.extract (k + 1) s.size) = (bs s).drop (k + 1) := by rw [bs_extract, List.take_of_length_le (by rw [← size_bs]; exact Nat.le_refl _)]
        have hlt : k < (bs s).length := (List.getElem?_eq_some_iff.1 hf.1).1
        have he : (bs s)[k] = 46 := by have := hf.1; rw [List.getElem?_eq_getElem hlt] at this; injection this
        rw [Lib.countB_hit s _ k (by decide) (h2.trans hk)]
        show 1 + Lib.countB (s.extract (k + 1) s.size) ⟨#[46]⟩ = _
        rw [ih (s.extract (k + 1) s.size) (by rw [ByteArray.size_extract]; omega), e1]
        have hc : (bs s).count 46 = ((bs s).take k).count 46 + (((bs s).drop k)).count 46 := by rw [← List.count_append, List.take_append_drop]
        have hz : ((bs s).take k).count 46 = 0 := by
          rw [List.count_eq_zero]
          intro hm
          obtain ⟨j, hj⟩ := List.getElem?_of_mem hm
          rw [List.getElem?_take] at hj
          split at hj
          · exact hf.2 j (by assumption) hj
          · cases hj
        rw [List.drop_eq_getElem_cons hlt, he, List.count_cons_self] at hc
        omega
  exact this s.size s (Nat.le_refl _)
theorem dots_len (s : ByteArray) : (dots s).length = Lib.countB s ⟨#[46]⟩ + 1 := by rw [count_dots, dots, List.length_map, cuts_len]
theorem split_all (s : ByteArray) : Lib.splitB ⟨#[46]⟩ 0 (Lib.countB s ⟨#[46]⟩) s = dots s := split_dots _ s (by rw [count_dots]; exact Nat.le_refl _)
theorem dots_sizes (s : ByteArray) : ∀ x ∈ dots s, x.size ≤ s.size := by
  intro x hx
  obtain ⟨l, hl, rfl⟩ := List.mem_map.1 hx
  rw [size_mk, size_bs]
  exact cuts_sizes 46 (bs s) l hl
end Go.Proofs.YtngamlikhgilhaaDoor
