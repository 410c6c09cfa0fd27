/- Which addresses may be written: the plain law. -/
import Derived.Test.YtnjmhkehckhihaaDoorPathM
namespace Go.Proofs.YtnjmhkehckhihaaDoor
open Go.RowKit

theorem mem_cuts (c : UInt8) (l : List UInt8) (x : UInt8) (h : x ∈ l) : x = c ∨ ∃ q ∈ cuts c l, x ∈ q := by
  induction l with
  | nil => cases h
  | cons y l ih =>
    unfold cuts
    split
    · rename_i hy
      rcases List.mem_cons.1 h with rfl | h
      · exact .inl hy
      · rcases ih h with h | ⟨q, h1, h2⟩
        · exact .inl h
        · exact .inr ⟨q, List.mem_cons_of_mem _ h1, h2⟩
    · split
      · rename_i h0; exact absurd h0 (cuts_ne c l)
      · rename_i a b h0
        rcases List.mem_cons.1 h with rfl | h
        · exact .inr ⟨_, List.mem_cons_self .., List.mem_cons_self ..⟩
        · rcases ih h with h | ⟨q, h1, h2⟩
          · exact .inl h
          · rw [h0] at h1
            rcases List.mem_cons.1 h1 with rfl | h1
            · exact .inr ⟨_, List.mem_cons_self .., List.mem_cons_of_mem _ h2⟩
            · exact .inr ⟨q, List.mem_cons_of_mem _ h1, h2⟩
theorem part_mem {q : List UInt8} (h : partB (mk q) = true) (x : UInt8) (hx : x ∈ q) : stopB (x.toNat : Int) = false := by
  obtain ⟨k, hk, rfl⟩ := List.getElem_of_mem hx
  unfold partB at h
  rw [Bool.and_eq_true, List.all_eq_true] at h
  have h1 := h.2 k (by rw [List.mem_range, size_mk]; exact hk)
  have h2 : at_ (mk q) k = ((q[k]).toNat : Int) := by
    unfold at_
    rw [bs_mk, List.getD_eq_getElem?_getD, List.getElem?_eq_getElem hk, Option.getD_some]
  rw [h2] at h1
  generalize ((q[k]).toNat : Int) = c at h1
  unfold stopB askB
  have h3 : ¬ (c = 47 ∨ c = 63 ∨ c = 35) := by
    rintro (rfl | rfl | rfl) <;> (revert h1; unfold mayB wi; simp)
  simp only [Bool.or_eq_false_iff, beq_eq_false_iff_ne]
  omega
theorem canon_fix {h : ByteArray} (e : canonS h = some h) : ∀ x ∈ bs h, stopB (x.toNat : Int) = false := by
  have h1 := (canon_size e).2
  unfold canonS at e
  split at e
  · rename_i h2
    have h3 := h2.2
    rw [← h1] at h3
    intro x hx
    rw [List.all_eq_true] at h3
    rcases mem_cuts 46 (bs h) x hx with rfl | ⟨q, h4, h5⟩
    · decide
    · exact part_mem (h3 (mk q) (List.mem_map_of_mem h4)) x h5
  · cases e
theorem find_none (p : UInt8 → Bool) (l r : List UInt8) (h : ∀ x ∈ l, p x = false) : (l ++ r).findIdx p = l.length + r.findIdx p := by
  induction l with
  | nil => simp
  | cons x l ih =>
    rw [List.cons_append, List.findIdx_cons, h x (List.mem_cons_self ..), ih fun y hy => h y (List.mem_cons_of_mem _ hy)]
    simp only [List.length_cons, cond_false]
    omega
theorem ext_at (h p : ByteArray) : (h ++ p).extract 0 h.size = h := by
  apply bs_inj
  rw [bs_extract, bs_append, List.drop_zero, size_bs, List.take_left']
  rfl
theorem ext_behind (h p : ByteArray) : (h ++ p).extract h.size (h ++ p).size = p := by
  apply bs_inj
  rw [bs_extract, List.take_of_length_le (by rw [← size_bs]; exact Nat.le_refl _), bs_append, size_bs, List.drop_left']
  rfl
/-- May a host and a path be written? -/
def OkT (h p : ByteArray) : Prop := canonS h = some h ∧ pathB p = true ∧ ∀ x ∈ bs p, askB (x.toNat : Int) = false
theorem size_zero {s : ByteArray} (h : s.size = 0) : s = ByteArray.empty := by
  apply bs_inj
  rw [size_bs] at h
  rw [List.eq_nil_of_length_eq_zero h]
  rfl
theorem pos_full {p : Int → Bool} {s : ByteArray} (h : pos p s = s.size) : ∀ x ∈ bs s, p (x.toNat : Int) = false := by
  intro x hx
  obtain ⟨k, hk, rfl⟩ := List.getElem_of_mem hx
  have h1 := pos_before p s k (by rw [h, size_bs]; exact hk)
  rwa [at_getE s k hk] at h1
theorem full_pos {p : Int → Bool} {s : ByteArray} (h : ∀ x ∈ bs s, p (x.toNat : Int) = false) : pos p s = s.size := by
  unfold pos
  have := find_none (fun c => p (c.toNat : Int)) (bs s) [] h
  rw [List.append_nil] at this
  rw [this, size_bs]
  simp
theorem parseR_ok (sec : Bool) (h p : ByteArray) (ok : OkT h p) : parseR sec (h ++ p) = ((sec, h, p), 0) := by
  obtain ⟨h1, h2, h3⟩ := ok
  have hp := (path_iff p).1 h2
  have h4 : pos stopB (h ++ p) = h.size := by
    unfold pos
    rw [bs_append, find_none _ _ _ (canon_fix h1), ← size_bs]
    have h5 := (at_zero p).1 (by rw [hp.2.2.1]; rfl)
    cases e : bs p with
    | nil => rw [e] at h5; cases h5
    | cons x l =>
      rw [e] at h5
      cases h5
      rfl
  have h5 : pathS p = p := by
    unfold pathS
    rw [full_pos h3, take_all, if_neg (by omega)]
  unfold parseR
  rw [h4, ext_at, ext_behind, h1, h5]
  simp only [h2, if_true]
theorem ok_parseR (sec sec' : Bool) (h p : ByteArray) (e : parseR sec (h ++ p) = ((sec', h, p), 0)) : OkT h p := by
  unfold parseR at e
  cases hc : canonS ((h ++ p).extract 0 (pos stopB (h ++ p))) with
  | none => rw [hc] at e; simp [urlE] at e
  | some h' =>
    rw [hc] at e
    simp only [] at e
    split at e
    · rename_i h1
      simp only [Prod.mk.injEq, and_true] at e
      obtain ⟨-, rfl, h2⟩ := e
      have h3 : h'.size = pos stopB (h' ++ p) := by
        have h4 := congrArg ByteArray.size (canon_size hc).2
        have h5 := pos_le stopB (h' ++ p)
        rw [lowS_size, ByteArray.size_extract] at h4
        omega
      rw [← h3, ext_at] at hc
      rw [← h3, ext_behind] at h1 h2
      rw [h2] at h1
      refine ⟨hc, h1, ?_⟩
      have hp := (path_iff p).1 h1
      unfold pathS at h2
      split at h2
      · rename_i h4
        rw [← h2] at h4
        exact absurd h4 (by decide)
      · refine pos_full ?_
        have h4 := congrArg ByteArray.size h2
        have h5 := pos_le askB p
        rw [ByteArray.size_extract] at h4
        omega
    · simp [urlE] at e
theorem parse_text (sec : Bool) (h p : ByteArray) : parseO (textS sec h p) = parseR sec (h ++ p) := by
  unfold parseO textS
  cases sec
  · simp only [Bool.false_eq_true, if_false]
    have h1 : preB (openS ++ h ++ p) safeS = false := by
      rw [← Bool.not_eq_true, pre_iff]
      rintro ⟨l, hl⟩
      rw [bs_append, bs_append] at hl
      have h2 := congrArg (fun l : List UInt8 => l[4]?) hl
      simp [bs, openS, safeS] at h2
    have h2 : preB (openS ++ h ++ p) openS = true := (pre_iff _ _).2 ⟨bs h ++ bs p, by rw [bs_append, bs_append, List.append_assoc]⟩
    have h3 := ext_behind openS (h ++ p)
    rw [← ByteArray.append_assoc] at h3
    rw [h1, h2]
    simp only [Bool.false_eq_true, if_false, if_true]
    exact congrArg (parseR false) h3
  · simp only [if_true]
    have h2 : preB (safeS ++ h ++ p) safeS = true := (pre_iff _ _).2 ⟨bs h ++ bs p, by rw [bs_append, bs_append, List.append_assoc]⟩
    have h3 := ext_behind safeS (h ++ p)
    rw [← ByteArray.append_assoc] at h3
    rw [h2]
    simp only [if_true]
    exact congrArg (parseR true) h3
theorem text_ok (sec : Bool) (h p : ByteArray) (ok : OkT h p) : parseO (textS sec h p) = ((sec, h, p), 0) := by rw [parse_text, parseR_ok sec h p ok]
theorem text_no (sec sec' : Bool) (h p : ByteArray) (no : ¬ OkT h p) : parseO (textS sec h p) ≠ ((sec', h, p), 0) := by
  rw [parse_text]
  exact fun e => no (ok_parseR sec sec' h p e)
theorem parseR_sec (sec : Bool) (t : ByteArray) (u : Bool × ByteArray × ByteArray) (e : parseR sec t = (u, 0)) : u.1 = sec := by
  unfold parseR at e
  split at e
  · simp [urlE] at e
  · split at e
    · simp only [Prod.mk.injEq, and_true] at e
      rw [← e]
    · simp [urlE] at e
end Go.Proofs.YtnjmhkehckhihaaDoor
