/- A header that may be written is read as it was: the plain law. -/
import Derived.Test.YtngamlikhgilhaaGreatDoorZL
import Derived.Test.YtngamlikhgilhaaGreatDoorZM
namespace Go.Proofs.YtngamlikhgilhaaGreatDoor
open Go.RowKit Go.Shelf

theorem trimL_ends {l : List UInt8} (h1 : ∀ x, l.head? = some x → blk x = false) (h2 : ∀ x, l.reverse.head? = some x → blk x = false) : trimL l = l := by
  have key : ∀ l : List UInt8, (∀ x, l.head? = some x → blk x = false) → l.dropWhile blk = l := by
    intro l h
    cases l with
    | nil => rfl
    | cons x l => rw [List.dropWhile_cons, if_neg (by rw [h x rfl]; decide)]
  unfold trimL rdw
  rw [key l.reverse h2, List.reverse_reverse, key l h1]
theorem step_val (now : Int) (p : Hd × Int) (a d : List UInt8) (k : Nat) (ha : ∀ x ∈ a, x ≠ 61) (hk : kindN (trimS (mk a)) = k) (hd : trimL d = d) : stepH now p (a ++ 61 :: d) = (attK k p.1 (mk d), agK k p.2 now (mk d)) := by
  refine step_lit now p _ k _ ?_ ?_
  · unfold nameS
    rw [bs_mk, cutL_at ha]
    exact hk
  · unfold valueS trimS
    rw [bs_mk (a ++ 61 :: d), cutL_at ha, bs_mk, hd]
/-- Bytes of which none is a blank or parts. -/
def Solid (l : List UInt8) : Prop := ∀ x ∈ l, blk x = false ∧ x ≠ 59
theorem solid_of {x : UInt8} (h1 : 33 ≤ x.toNat) (h2 : x.toNat ≠ 59) : blk x = false ∧ x ≠ 59 := by
  refine ⟨?_, fun h => h2 (by rw [h]; rfl)⟩
  unfold blk
  have e1 : x ≠ 32 := by intro h; rw [h] at h1; exact absurd h1 (by decide)
  have e2 : x ≠ 9 := by intro h; rw [h] at h1; exact absurd h1 (by decide)
  simp [e1, e2]
theorem allB_at {p : Int → Bool} {s : ByteArray} (h : allB p s = true) : ∀ x ∈ bs s, p (x.toNat : Int) = true := fun x hx => List.all_eq_true.1 h x hx
theorem tok_solid {s : ByteArray} (h : tokB s = true) : Solid (bs s) ∧ (∀ x ∈ bs s, x ≠ 61) ∧ s ≠ ⟨#[]⟩ := by
  unfold tokB at h
  rw [Bool.and_eq_true] at h
  have key : ∀ x ∈ bs s, 33 ≤ x.toNat ∧ x.toNat ≠ 59 ∧ x.toNat ≠ 61 := by
    intro x hx
    have := allB_at h.2 x hx
    simp only [nameB, wi, Bool.or_eq_true, Bool.and_eq_true, decide_eq_true_eq, beq_iff_eq] at this
    omega
  refine ⟨fun x hx => solid_of (key x hx).1 (key x hx).2.1, fun x hx h9 => (key x hx).2.2 (by rw [h9]; rfl), fun h9 => ?_⟩
  rw [h9] at h
  exact absurd h.1 (by decide)
theorem oct_solid {s : ByteArray} (h : allB octB s = true) : Solid (bs s) := by
  intro x hx
  have := allB_at h x hx
  simp only [octB, wi, Bool.and_eq_true, decide_eq_true_eq, Bool.not_eq_true', beq_eq_false_iff_ne] at this
  exact solid_of (by omega) (by omega)
theorem plain_solid {s : ByteArray} (h : allB plainB s = true) : Solid (bs s) := by
  intro x hx
  have := allB_at h x hx
  simp only [plainB, wi, Bool.and_eq_true, decide_eq_true_eq, Bool.not_eq_true', beq_eq_false_iff_ne] at this
  exact solid_of (by omega) (by omega)
theorem cuts_mem (c x : UInt8) : ∀ l : List UInt8, x ∈ l → x = c ∨ ∃ q ∈ cuts c l, x ∈ q
  | [], h => by cases h
  | y :: l, h => by
    have hne := cuts_ne c l
    unfold cuts
    by_cases hy : y = c
    · rw [if_pos hy]
      rcases List.mem_cons.1 h with rfl | h
      · exact .inl hy
      · rcases cuts_mem c x l h with h | ⟨q, hq, hx⟩
        · exact .inl h
        · exact .inr ⟨q, List.mem_cons_of_mem _ hq, hx⟩
    · rw [if_neg hy]
      cases hc : cuts c l with
      | nil => exact absurd hc hne
      | cons g t =>
        dsimp only
        rcases List.mem_cons.1 h with rfl | h
        · exact .inr ⟨x :: g, List.mem_cons_self .., List.mem_cons_self ..⟩
        · rcases cuts_mem c x l h with h | ⟨q, hq, hx⟩
          · exact .inl h
          · rw [hc] at hq
            rcases List.mem_cons.1 hq with rfl | hq
            · exact .inr ⟨y :: q, List.mem_cons_self .., List.mem_cons_of_mem _ hx⟩
            · exact .inr ⟨q, List.mem_cons_of_mem _ hq, hx⟩
theorem part_at {s : ByteArray} (h : partB s = true) : ∀ x ∈ bs s, 45 ≤ x.toNat ∧ x.toNat ≤ 122 ∧ x.toNat ≠ 59 := by
  intro x hx
  obtain ⟨k, hk, rfl⟩ := List.getElem_of_mem hx
  have hk' : k < s.size := by rw [size_bs]; exact hk
  unfold partB at h
  simp only [Bool.and_eq_true, List.all_eq_true, List.mem_range] at h
  have h1 := h.2 k hk'
  have e : at_ s k = ((bs s)[k].toNat : Int) := by
    unfold at_
    simp [List.getD_eq_getElem?_getD, hk]
    rfl
  rw [e] at h1
  simp only [mayB, wi, Bool.or_eq_true, Bool.and_eq_true, decide_eq_true_eq, beq_iff_eq] at h1
  omega
theorem canon_of {d : ByteArray} (h : canonS d = some d) : lowS d = d ∧ (dots d).all partB = true := by
  unfold canonS at h
  split at h
  · rename_i h1
    have e : lowS d = d := by injection h
    rw [e] at h1
    exact ⟨e, h1.2⟩
  · cases h
theorem canon_solid {d : ByteArray} (h : canonS d = some d) : Solid (bs d) := by
  have h2 := (canon_of h).2
  intro x hx
  rcases cuts_mem 46 x (bs d) hx with rfl | ⟨q, hq, hx2⟩
  · exact ⟨by decide, by decide⟩
  · have h3 : partB (mk q) = true := List.all_eq_true.1 h2 _ (List.mem_map.2 ⟨q, hq, rfl⟩)
    have h4 := part_at h3 x (by rw [bs_mk]; exact hx2)
    exact solid_of (by omega) h4.2.2
theorem canon_dom {d : ByteArray} (h : canonS d = some d) : domS d = d := by
  obtain ⟨h1, h2⟩ := canon_of h
  unfold domS
  rw [h1]
  have h3 : Lib.hasPrefix d.data.toList [46] = false := by
    cases hd : d.data.toList with
    | nil => rfl
    | cons x l =>
      by_cases hx : x = 46
      · exfalso
        have : (dots d).all partB = true := h2
        unfold dots at this
        rw [show bs d = x :: l from hd, cuts, if_pos hx, List.map_cons, List.all_cons] at this
        rw [show partB (mk []) = false by decide] at this
        cases this
      · simp [Lib.hasPrefix, List.isPrefixOf]
        exact fun h9 => hx h9.symm
  unfold Lib.trimPrefix
  rw [h3]
  rfl
/-- A text and one attribute more, if there is one. -/
theorem parP_if {l m : List UInt8} {now : Int} {p : Hd × Int} (c : Bool) (h : parP l now = some p) (hm : ∀ x ∈ m, x ≠ 59) : parP (l ++ ifL c m) now = some (if c then stepH now p (32 :: m) else p) := by
  cases c
  · rw [show ifL false m = [] from rfl, List.append_nil, h]
    rfl
  · rw [show ifL true m = 59 :: 32 :: m from rfl, parP_more, h, segs_one (by
      intro x hx
      rcases List.mem_cons.1 hx with rfl | hx
      · decide
      · exact hm x hx)]
    rfl
theorem solid_val {a d : List UInt8} (ha : ∀ x ∈ a, x ≠ 59) (hd : Solid d) : ∀ x ∈ a ++ 61 :: d, x ≠ 59 := by
  intro x hx
  rcases List.mem_append.1 hx with h | h
  · exact ha x h
  rcases List.mem_cons.1 h with rfl | h
  · decide
  · exact (hd x h).2
theorem solid_trim {d : List UInt8} (hd : Solid d) : trimL d = d := trimL_id fun x hx => (hd x hx).1
theorem emp_iff (s : ByteArray) : (!s.toList.isEmpty) = true ↔ s ≠ ⟨#[]⟩ := by
  rw [toLh]
  constructor
  · intro h h9
    rw [h9] at h
    exact absurd h (by decide)
  · intro h
    cases hb : bs s with
    | nil => exact absurd (bs_inj (by rw [hb]; rfl)) h
    | cons x l => rfl
theorem emp_no {s : ByteArray} (h : s = ⟨#[]⟩) : (!s.toList.isEmpty) = false := by rw [h, toLh]; rfl
section
variable {l : List UInt8} {now : Int} {nm vl dm pt : ByteArray} {ex : Int} {se ho : Bool} {st : Int}
theorem base_par (h1 : tokB nm = true) (h2 : allB octB vl = true) (h3 : 0 ≤ now ∧ now ≤ 253402300799) : parP (bs nm ++ 61 :: bs vl) now = some (⟨nm, vl, ⟨#[]⟩, ⟨#[]⟩, 0, false, false, 0⟩, 0) := by
  obtain ⟨s1, s2, s3⟩ := tok_solid h1
  have s4 := oct_solid h2
  unfold parP
  rw [segs_one (solid_val (fun x hx => (s1 x hx).2) s4), List.headD_cons, List.tail_cons, List.foldl_nil]
  have e1 : nameS (mk (bs nm ++ 61 :: bs vl)) = nm := by
    unfold nameS
    rw [bs_mk, cutL_at s2]
    unfold trimS
    rw [bs_mk, solid_trim s1]
    rfl
  have e2 : valueS (mk (bs nm ++ 61 :: bs vl)) = vl := by
    unfold valueS
    rw [bs_mk, cutL_at s2]
    unfold trimS
    rw [bs_mk, solid_trim s4]
    rfl
  have e3 : hasS (mk (bs nm ++ 61 :: bs vl)) = true := by
    unfold hasS
    rw [bs_mk, cutL_at s2]
  rw [e1, e2, e3, if_pos ⟨h3.1, h3.2, rfl, s3⟩]
theorem dom_par (h : parP l now = some (⟨nm, vl, ⟨#[]⟩, pt, ex, se, ho, st⟩, 0)) (hd : domB dm = true) : parP (l ++ ifL (!dm.toList.isEmpty) (dOMt ++ 61 :: bs dm)) now = some (⟨nm, vl, dm, pt, ex, se, ho, st⟩, 0) := by
  by_cases h0 : dm = ⟨#[]⟩
  · rw [emp_no h0, h0, show ifL false _ = [] from rfl, List.append_nil, h]
  · have hc : canonS dm = some dm := by
      have := of_decide_eq_true hd
      rcases this with h9 | h9
      · exact absurd h9 h0
      · exact h9
    have hs := canon_solid hc
    rw [parP_if _ h (solid_val (by decide) hs), (emp_iff dm).2 h0, if_pos rfl, ← List.cons_append, step_val now _ (32 :: dOMt) (bs dm) 3 (by decide) (by decide) (solid_trim hs)]
    show some (attK 3 _ dm, _) = _
    have e : attK 3 (⟨nm, vl, ⟨#[]⟩, pt, ex, se, ho, st⟩ : Hd) dm = (if domS dm = ⟨#[]⟩ then (⟨nm, vl, ⟨#[]⟩, pt, ex, se, ho, st⟩ : Hd) else { (⟨nm, vl, ⟨#[]⟩, pt, ex, se, ho, st⟩ : Hd) with dm := domS dm }) := rfl
    rw [e, canon_dom hc, if_neg h0]
    unfold agK
    rw [if_neg (by decide)]
theorem path_par (h : parP l now = some (⟨nm, vl, dm, ⟨#[]⟩, ex, se, ho, st⟩, 0)) (hd : wayB pt = true) : parP (l ++ ifL (!pt.toList.isEmpty) (pTHt ++ 61 :: bs pt)) now = some (⟨nm, vl, dm, pt, ex, se, ho, st⟩, 0) := by
  by_cases h0 : pt = ⟨#[]⟩
  · rw [emp_no h0, h0, show ifL false _ = [] from rfl, List.append_nil, h]
  · have hc : pathB pt = true := by
      have := of_decide_eq_true hd
      rcases this with h9 | h9
      · exact absurd h9 h0
      · exact h9
    unfold pathB at hc
    simp only [Bool.and_eq_true] at hc
    have hs := plain_solid hc.2
    have hp : preB pt ⟨#[47]⟩ = true := by
      have h1 := hc.1.2
      rw [pre_L]
      unfold preL
      have hb : bs pt ≠ [] := fun h9 => h0 (bs_inj (by rw [h9]; rfl))
      have e : at_ pt 0 = (((bs pt).getD 0 0).toNat : Int) := rfl
      rw [e, beq_iff_eq] at h1
      show Lib.hasPrefix (bs pt) [47] = true
      cases hq : bs pt with
      | nil => exact absurd hq hb
      | cons x r =>
        rw [hq] at h1
        have hx : x = 47 := UInt8.toNat.inj (by have : ((x.toNat : Nat) : Int) = 47 := h1; have h7 : (47 : UInt8).toNat = 47 := rfl; omega)
        rw [hx]
        simp [Lib.hasPrefix, List.isPrefixOf]
    rw [parP_if _ h (solid_val (by decide) hs), (emp_iff pt).2 h0, if_pos rfl, ← List.cons_append, step_val now _ (32 :: pTHt) (bs pt) 4 (by decide) (by decide) (solid_trim hs)]
    show some (attK 4 _ pt, _) = _
    unfold attK agK
    dsimp only
    rw [hp, if_neg (by decide : ¬ (4 : Nat) = 2)]
    rfl
theorem no_part {w : List UInt8} (h : noPart w = true) : ∀ x ∈ w, x ≠ 59 := by
  intro x hx h9
  have := List.all_eq_true.1 h x hx
  rw [h9] at this
  exact absurd this (by decide)
theorem when_facts {t : Int} {x : ByteArray} (hx : IsWhen t x) (h0 : 0 ≤ t) : (∀ c ∈ bs x, c ≠ 59) ∧ trimL (bs x) = bs x ∧ cookO x = some t := by
  obtain ⟨k, y, m, d, h, n, s, h1, h2, h3, h4, rfl⟩ := hx
  obtain ⟨-, -, d1, d2⟩ := day_facts k h3
  obtain ⟨-, -, m1, m2⟩ := mon_facts m h2
  obtain ⟨t1, t2⟩ := hand_noPart h n s
  refine ⟨?_, ?_, ?_⟩
  · intro c hc
    rw [imf_bs] at hc
    simp only [List.mem_append, List.mem_cons, List.not_mem_nil, or_false] at hc
    rcases hc with hc | rfl | rfl | hc | rfl | hc | rfl | hc | rfl | hc | rfl | rfl | rfl | rfl
    · exact no_part d1 c hc
    · decide
    · decide
    · exact no_part (fix_noPart 2 d) c hc
    · decide
    · exact no_part m1 c hc
    · decide
    · exact no_part (fix_noPart 4 y) c hc
    · decide
    · exact no_part t1 c hc
    all_goals decide
  · rw [imf_bs]
    refine trimL_ends ?_ ?_
    · intro c hc
      have : k = 0 ∨ k = 1 ∨ k = 2 ∨ k = 3 ∨ k = 4 ∨ k = 5 ∨ k = 6 := by omega
      rcases this with rfl | rfl | rfl | rfl | rfl | rfl | rfl <;> (cases hc; decide)
    · intro c hc
      simp at hc
      rw [← hc]
      decide
  · have h5 := imf_cookie (k := k) h1 h3 h0
    rw [cook_unf] at h5
    cases hq : cookO (imfS k d m y h n s) with
    | none => rw [hq] at h5; simp [unfV] at h5
    | some t' => rw [hq] at h5; simp [unfV] at h5; rw [h5]
theorem ex_par {x : ByteArray} (h : parP l now = some (⟨nm, vl, dm, pt, 0, se, ho, st⟩, 0)) (h0 : 0 ≤ ex) (h1 : ex ≤ 253402300799) (hx : IsWhen ex x) : parP (l ++ ifL (!(ex == 0)) (eXPt ++ 61 :: bs x)) now = some (⟨nm, vl, dm, pt, ex, se, ho, st⟩, 0) := by
  by_cases he : ex = 0
  · subst he
    rw [show (!((0 : Int) == 0)) = false from rfl, show ifL false _ = [] from rfl, List.append_nil, h]
  · obtain ⟨w1, w2, w3⟩ := when_facts hx h0
    rw [parP_if _ h (by
      intro c hc
      rcases List.mem_append.1 hc with hc | hc
      · exact (show ∀ x ∈ eXPt, x ≠ 59 by decide) c hc
      rcases List.mem_cons.1 hc with rfl | hc
      · decide
      · exact w1 c hc), show (!(ex == 0)) = true by simp [he], if_pos rfl, ← List.cons_append, step_val now _ (32 :: eXPt) (bs x) 1 (by decide) (by decide) w2]
    show some (attK 1 _ x, _) = _
    have e : attK 1 (⟨nm, vl, dm, pt, 0, se, ho, st⟩ : Hd) x = (match cookO x with | some t => { (⟨nm, vl, dm, pt, 0, se, ho, st⟩ : Hd) with ex := clampN t } | none => ⟨nm, vl, dm, pt, 0, se, ho, st⟩) := rfl
    rw [e, w3]
    unfold agK
    rw [if_neg (by decide)]
    have : clampN ex = ex := by unfold clampN; omega
    dsimp only
    rw [this]
theorem se_par (h : parP l now = some (⟨nm, vl, dm, pt, ex, false, ho, st⟩, 0)) : parP (l ++ ifL se sECt) now = some (⟨nm, vl, dm, pt, ex, se, ho, st⟩, 0) := by
  rw [parP_if _ h (by decide)]
  cases se
  · rfl
  · rw [if_pos rfl, step_lit now _ (32 :: sECt) 5 ⟨#[]⟩ (by decide) (by decide)]
    rfl
theorem ho_par (h : parP l now = some (⟨nm, vl, dm, pt, ex, se, false, st⟩, 0)) : parP (l ++ ifL ho hTOt) now = some (⟨nm, vl, dm, pt, ex, se, ho, st⟩, 0) := by
  rw [parP_if _ h (by decide)]
  cases ho
  · rfl
  · rw [if_pos rfl, step_lit now _ (32 :: hTOt) 6 ⟨#[]⟩ (by decide) (by decide)]
    rfl
theorem st_par (h : parP l now = some (⟨nm, vl, dm, pt, ex, se, ho, 0⟩, 0)) (h0 : 0 ≤ st) (h1 : st ≤ 3) : parP (l ++ ifL (!(st == 0)) (sSTt ++ 61 :: bs (siteT st))) now = some (⟨nm, vl, dm, pt, ex, se, ho, st⟩, 0) := by
  have : st = 0 ∨ st = 1 ∨ st = 2 ∨ st = 3 := by omega
  rcases this with rfl | rfl | rfl | rfl
  · rw [show (!((0 : Int) == 0)) = false from rfl, show ifL false _ = [] from rfl, List.append_nil, h]
  · rw [parP_if _ h (by decide), show (!((1 : Int) == 0)) = true from rfl, if_pos rfl, step_lit now _ (32 :: (sSTt ++ 61 :: bs (siteT 1))) 7 ⟨#[76, 97, 120]⟩ (by decide) (by decide)]
    rfl
  · rw [parP_if _ h (by decide), show (!((2 : Int) == 0)) = true from rfl, if_pos rfl, step_lit now _ (32 :: (sSTt ++ 61 :: bs (siteT 2))) 7 ⟨#[83, 116, 114, 105, 99, 116]⟩ (by decide) (by decide)]
    rfl
  · rw [parP_if _ h (by decide), show (!((3 : Int) == 0)) = true from rfl, if_pos rfl, step_lit now _ (32 :: (sSTt ++ 61 :: bs (siteT 3))) 7 ⟨#[78, 111, 110, 101]⟩ (by decide) (by decide)]
    rfl
end
theorem round_trip {h : Hd} {x : ByteArray} {now : Int} (hr : rightB h = true) (hx : IsWhen h.ex x) (hn : 0 ≤ now ∧ now ≤ 253402300799) : parH (mk (printL h x)) now = some h := by
  obtain ⟨nm, vl, dm, pt, ex, se, ho, st⟩ := h
  unfold rightB numB at hr
  simp only [Bool.and_eq_true, decide_eq_true_eq] at hr
  obtain ⟨⟨⟨⟨r1, r2⟩, r3⟩, r4⟩, ⟨⟨r5, r6⟩, r7⟩, r8⟩ := hr
  have h1 := base_par r3 r4 hn
  have h2 := dom_par h1 r1
  have h3 := path_par h2 r2
  have h4 := ex_par h3 r5 r6 hx
  have h5 := st_par (ho_par (ho := ho) (se_par (se := se) h4)) r7 r8
  rw [par_P, bs_mk, show printL ⟨nm, vl, dm, pt, ex, se, ho, st⟩ x = _ from rfl]
  unfold printL
  dsimp only
  rw [h5]
  rfl
end Go.Proofs.YtngamlikhgilhaaGreatDoor
