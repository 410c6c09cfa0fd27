/- Headers: plain laws: an attribute more, blanks more. -/
import Derived.Test.YtngamlikhgilhaaGreatDoorZJ
import Derived.Test.YtngamlikhgilhaaGreatDoorZK
namespace Go.Proofs.YtngamlikhgilhaaGreatDoor
open Go.RowKit

theorem segs_ne (l : List UInt8) : segs l ≠ [] := by
  cases l with
  | nil => exact fun h => by cases h
  | cons x l =>
    rw [segs_cons]
    split
    · exact fun h => by cases h
    · exact fun h => by cases h
theorem segs_app (a b : List UInt8) : segs (a ++ 59 :: b) = segs a ++ segs b := by
  induction a with
  | nil => rw [List.nil_append, segs_cons, if_pos rfl]; rfl
  | cons x l ih =>
    rw [List.cons_append, segs_cons, segs_cons, ih]
    split
    · rfl
    · have h := segs_ne l
      cases h1 : segs l with
      | nil => exact absurd h1 h
      | cons y r => rfl
/-- A header's parts, from the second on, taken in turn; the pair ahead of the end. -/
def parP (s : List UInt8) (now : Int) : Option (Hd × Int) :=
  if 0 ≤ now ∧ now ≤ 253402300799 ∧ hasS (mk ((segs s).headD [])) = true ∧ nameS (mk ((segs s).headD [])) ≠ ⟨#[]⟩ then
    some ((segs s).tail.foldl (stepH now) (⟨nameS (mk ((segs s).headD [])), valueS (mk ((segs s).headD [])), ⟨#[]⟩, ⟨#[]⟩, 0, false, false, 0⟩, 0))
  else none
theorem par_P (s : ByteArray) (now : Int) : parH s now = (parP (bs s) now).map endH := by
  have h1 : (segs (bs s)).headD [] = (cutL 59 (bs s)).1 := by rw [segs_cut]; rfl
  have h2 : ∀ p, (segs (bs s)).tail.foldl (stepH now) p = goH now p (cutL 59 (bs s)).2.1 := by
    intro p
    rw [segs_cut, List.tail_cons]
    cases h : (cutL 59 (bs s)).2.2
    · rw [cutL_nil h, goH_nil]
      rfl
    · rfl
  unfold parH parP
  rw [h1, h2]
  dsimp only
  split
  · rfl
  · rfl
theorem parP_more (a b : List UInt8) (now : Int) : parP (a ++ 59 :: b) now = (parP a now).map (fun p => (segs b).foldl (stepH now) p) := by
  unfold parP
  rw [segs_app]
  have h := segs_ne a
  cases h1 : segs a with
  | nil => exact absurd h1 h
  | cons y r =>
    rw [List.cons_append, List.headD_cons, List.tail_cons, List.headD_cons, List.tail_cons]
    split
    · rw [Option.map_some, List.foldl_append]
    · rfl
theorem segs_one {l : List UInt8} (h : ∀ x ∈ l, x ≠ 59) : segs l = [l] := by
  induction l with
  | nil => rfl
  | cons x l ih =>
    rw [segs_cons, if_neg (h x (List.mem_cons_self ..)), ih (fun y hy => h y (List.mem_cons_of_mem _ hy))]
    rfl
/-- A header and one attribute more. -/
theorem par_more1 {s : ByteArray} {now : Int} {p : Hd × Int} (b : List UInt8) (hb : ∀ x ∈ b, x ≠ 59) (h : parP (bs s) now = some p) (t : ByteArray) (ht : bs t = bs s ++ 59 :: b) : parH t now = some (endH (stepH now p b)) := by
  rw [par_P, ht, parP_more, h, segs_one hb]
  rfl
theorem par_some {s : ByteArray} {now : Int} {h : Hd} (hp : parH s now = some h) : ∃ p, parP (bs s) now = some p ∧ endH p = h := by
  rw [par_P] at hp
  cases h1 : parP (bs s) now with
  | none => rw [h1] at hp; cases hp
  | some p => rw [h1] at hp; exact ⟨p, rfl, by injection hp⟩
theorem par_now {s : ByteArray} {now : Int} {h : Hd} (hp : parH s now = some h) : 0 ≤ now ∧ now ≤ 253402300799 := by
  unfold parH at hp
  dsimp only at hp
  split at hp
  · rename_i h1
    exact ⟨h1.1, h1.2.1⟩
  · cases hp
theorem step_lit (now : Int) (p : Hd × Int) (l : List UInt8) (k : Nat) (v : ByteArray) (h1 : kindN (nameS (mk l)) = k) (h2 : valueS (mk l) = v) : stepH now p l = (attK k p.1 v, agK k p.2 now v) := by
  unfold stepH; rw [h1, h2]
theorem lit_path (now : Int) (p : Hd × Int) : stepH now p [32, 80, 97, 116, 104, 61, 47, 122] = ({ p.1 with pt := ⟨#[47, 122]⟩ }, p.2) := by
  rw [step_lit now p [32, 80, 97, 116, 104, 61, 47, 122] 4 ⟨#[47, 122]⟩ (by decide) (by decide)]
  have h : preB ⟨#[47, 122]⟩ ⟨#[47]⟩ = true := by rw [pre_L]; decide
  unfold attK agK
  dsimp only
  rw [h, if_neg (by decide : ¬ (4 : Nat) = 2)]
  rfl
theorem lit_path0 (now : Int) (p : Hd × Int) : stepH now p [112, 97, 116, 104, 61, 122] = ({ p.1 with pt := ⟨#[]⟩ }, p.2) := by
  rw [step_lit now p [112, 97, 116, 104, 61, 122] 4 ⟨#[122]⟩ (by decide) (by decide)]
  have h : preB ⟨#[122]⟩ ⟨#[47]⟩ = false := by rw [pre_L]; decide
  unfold attK agK
  dsimp only
  rw [h, if_neg (by decide : ¬ (4 : Nat) = 2)]
  rfl
theorem lit_site (now : Int) (p : Hd × Int) : stepH now p [32, 83, 97, 109, 101, 83, 105, 116, 101, 61, 115, 116, 114, 105, 99, 116] = ({ p.1 with st := 2 }, p.2) :=
  step_lit now p [32, 83, 97, 109, 101, 83, 105, 116, 101, 61, 115, 116, 114, 105, 99, 116] 7 ⟨#[115, 116, 114, 105, 99, 116]⟩ (by decide) (by decide)
theorem lit_site0 (now : Int) (p : Hd × Int) : stepH now p [115, 97, 109, 101, 115, 105, 116, 101] = ({ p.1 with st := 0 }, p.2) :=
  step_lit now p [115, 97, 109, 101, 115, 105, 116, 101] 7 ⟨#[]⟩ (by decide) (by decide)
theorem lit_dom (now : Int) (p : Hd × Int) : stepH now p [32, 68, 79, 77, 65, 73, 78, 61, 46, 90] = ({ p.1 with dm := ⟨#[122]⟩ }, p.2) :=
  step_lit now p [32, 68, 79, 77, 65, 73, 78, 61, 46, 90] 3 ⟨#[46, 90]⟩ (by decide) (by decide)
theorem lit_dom0 (now : Int) (p : Hd × Int) : stepH now p [32, 100, 111, 109, 97, 105, 110, 61, 46] = p :=
  step_lit now p [32, 100, 111, 109, 97, 105, 110, 61, 46] 3 ⟨#[46]⟩ (by decide) (by decide)
theorem endH_pt (p : Hd × Int) (v : ByteArray) : endH ({ p.1 with pt := v }, p.2) = { endH p with pt := v } := by unfold endH; dsimp only; split <;> rfl
theorem endH_st (p : Hd × Int) (v : Int) : endH ({ p.1 with st := v }, p.2) = { endH p with st := v } := by unfold endH; dsimp only; split <;> rfl
theorem endH_dm (p : Hd × Int) (v : ByteArray) : endH ({ p.1 with dm := v }, p.2) = { endH p with dm := v } := by unfold endH; dsimp only; split <;> rfl
end Go.Proofs.YtngamlikhgilhaaGreatDoor
/- Headers: plain laws: how long a cookie lives. -/
namespace Go.Proofs.YtngamlikhgilhaaGreatDoor
open Go.RowKit

theorem digL_all (n : Nat) : allD (digL n) = true := by
  induction n using Nat.strongRecOn with
  | ind n ih =>
    have hd : ∀ k : Nat, allD [UInt8.ofNat (48 + k % 10)] = true := by
      intro k
      unfold allD
      rw [List.all_cons, List.all_nil, Bool.and_true, dig_iff, dig_of]
      omega
    by_cases h : n < 10
    · rw [digL_lt h]
      have := hd n
      rwa [Nat.mod_eq_of_lt h] at this
    · rw [digL_ge (by omega)]
      have h1 := ih (n / 10) (by omega)
      have h2 := hd n
      unfold allD at h1 h2 ⊢
      rw [List.all_append, h1, h2]
      rfl
theorem digL_dec (n : Nat) : decV (digL n) = n := by
  induction n using Nat.strongRecOn with
  | ind n ih =>
    by_cases h : n < 10
    · rw [digL_lt h, ← List.nil_append [UInt8.ofNat (48 + n)], decV_snoc, decV_nil]
      have := dig_of n
      rw [Nat.mod_eq_of_lt h] at this
      rw [this]
      omega
    · rw [digL_ge (by omega), decV_snoc, ih (n / 10) (by omega), dig_of]
      omega
theorem digL_head (n : Nat) (h0 : 0 < n) : ∃ x l, digL n = x :: l ∧ x ≠ 48 := by
  induction n using Nat.strongRecOn with
  | ind n ih =>
    by_cases h : n < 10
    · refine ⟨_, _, digL_lt h, ?_⟩
      intro h9
      have h8 := congrArg UInt8.toNat h9
      have := dig_of n
      rw [Nat.mod_eq_of_lt h] at this
      rw [this] at h8
      have h7 : (48 : UInt8).toNat = 48 := rfl
      omega
    · obtain ⟨x, l, h1, h2⟩ := ih (n / 10) (by omega) (by omega)
      exact ⟨x, l ++ [UInt8.ofNat (48 + n % 10)], by rw [digL_ge (by omega), h1]; rfl, h2⟩
theorem dig_range {l : List UInt8} (h : allD l = true) : ∀ x ∈ l, 48 ≤ x.toNat ∧ x.toNat ≤ 57 := by
  intro x hx
  have h1 := List.all_eq_true.1 h x hx
  rw [dig_iff] at h1
  omega
theorem noz_pos (n : Nat) (h : 0 < n) : nozS (mk (digL n)) = mk (digL n) := by
  obtain ⟨x, l, h1, h2⟩ := digL_head n h
  unfold nozS
  rw [bs_mk, h1, List.dropWhile_cons, if_neg (by simpa using h2)]
theorem pre_list (v p : ByteArray) : preB v p = Lib.hasPrefix v.data.toList p.data.toList := by
  unfold preB
  rw [← Lib.hasPrefix_raw (p := p)]
theorem pre_mk (x : UInt8) (l : List UInt8) : preB (mk (x :: l)) ⟨#[45]⟩ = (x == 45) := by
  rw [pre_list]
  show Lib.hasPrefix (x :: l) [45] = _
  simp [Lib.hasPrefix, List.isPrefixOf]
  exact Bool.beq_comm
theorem cut_minus (l : List UInt8) : cutS (mk (45 :: l)) ⟨#[45]⟩ = mk l := by
  unfold cutS
  rw [pre_mk, if_pos (by decide)]
  apply bs_inj
  show bs ((mk (45 :: l)).extract 1 _) = _
  rw [bs_extract, bs_mk, bs_mk, size_mk]
  simp
theorem cut_plain {x : UInt8} {l : List UInt8} (h : x ≠ 45) : cutS (mk (x :: l)) ⟨#[45]⟩ = mk (x :: l) := by
  unfold cutS
  rw [pre_mk, if_neg (by simpa using h)]
theorem mk_ne {x : UInt8} {l : List UInt8} : mk (x :: l) ≠ ⟨#[]⟩ := by
  intro h
  have := congrArg bs h
  rw [bs_mk] at this
  cases this
theorem digL_cons (n : Nat) : ∃ x l, digL n = x :: l ∧ x ≠ 45 := by
  cases h : digL n with
  | nil => have := digL_pos n; rw [h] at this; cases this
  | cons x l =>
    refine ⟨x, l, rfl, ?_⟩
    have := dig_range (digL_all n) x (by rw [h]; exact List.mem_cons_self ..)
    intro h9
    rw [h9] at this
    have h7 : (45 : UInt8).toNat = 45 := rfl
    omega
/-- A number's text, with a minus too. -/
def intL (n : Int) : List UInt8 := if n < 0 then 45 :: digL n.natAbs else digL n.natAbs
theorem age_int (n : Int) (h : n ≤ 253402300799) : ageN (mk (intL n)) = if n ≤ 0 then 0 else n := by
  unfold intL
  by_cases h0 : n < 0
  · rw [if_pos h0, if_pos (by omega)]
    obtain ⟨x, l, h1, _⟩ := digL_cons n.natAbs
    unfold ageN ageD
    rw [pre_mk, cut_minus, bs_mk, digL_all, if_neg (by rw [h1]; simp [mk_ne]), if_pos (Or.inl (by decide))]
  · rw [if_neg h0]
    obtain ⟨x, l, h1, h2⟩ := digL_cons n.natAbs
    have e1 : preB (mk (digL n.natAbs)) ⟨#[45]⟩ = false := by rw [h1, pre_mk]; simpa using h2
    have e2 : cutS (mk (digL n.natAbs)) ⟨#[45]⟩ = mk (digL n.natAbs) := by rw [h1, cut_plain h2]
    have e3 : mk (digL n.natAbs) ≠ ⟨#[]⟩ := by rw [h1]; exact mk_ne
    unfold ageN ageD
    rw [e1, e2, bs_mk, digL_all, if_neg (by simp [e3])]
    by_cases hz : n = 0
    · subst hz
      rw [if_pos (Or.inr (by rw [show digL (Int.natAbs 0) = [48] from digL_lt (by decide)]; decide)), if_pos (by decide)]
    · rw [noz_pos _ (by omega), if_neg (by simp [e3]), size_mk, bs_mk, digL_dec]
      have h5 := digL_len 12 n.natAbs (by decide) (by rw [show (10 : Nat) ^ 12 = 1000000000000 from rfl]; omega)
      rw [if_neg (by omega), if_neg (by omega)]
      omega
theorem age_x (l : List UInt8) : ageN (mk (120 :: l)) = -1 := by
  unfold ageN ageD
  rw [cut_plain (by decide), bs_mk, if_pos (Or.inr (by rfl))]
theorem trimL_id {l : List UInt8} (h : ∀ x ∈ l, blk x = false) : trimL l = l := by
  have key : ∀ l : List UInt8, (∀ x ∈ l, blk x = false) → l.dropWhile blk = l := by
    intro l h
    cases l with
    | nil => rfl
    | cons x l => rw [List.dropWhile_cons, if_neg (by rw [h x (List.mem_cons_self ..)]; decide)]
  unfold trimL rdw
  rw [key l.reverse (fun x hx => h x (List.mem_reverse.1 hx)), List.reverse_reverse, key l h]
theorem cutL_at {a : List UInt8} (h : ∀ x ∈ a, x ≠ 61) (d : List UInt8) : cutL 61 (a ++ 61 :: d) = (a, d, true) := by
  induction a with
  | nil => rw [List.nil_append, cutL, if_pos rfl]
  | cons x a ih =>
    rw [List.cons_append, cutL, if_neg (h x (List.mem_cons_self ..)), ih (fun y hy => h y (List.mem_cons_of_mem _ hy))]
theorem step_eq (now : Int) (p : Hd × Int) (a d : List UInt8) (k : Nat) (ha : ∀ x ∈ a, x ≠ 61) (hk : kindN (trimS (mk a)) = k) (hd : ∀ x ∈ d, blk x = false) : stepH now p (a ++ 61 :: d) = (attK k p.1 (mk d), agK k p.2 now (mk d)) := by
  refine step_lit now p _ k _ ?_ ?_
  · unfold nameS
    rw [bs_mk, cutL_at ha]
    exact hk
  · unfold valueS trimS
    rw [bs_mk (a ++ 61 :: d), cutL_at ha, bs_mk, trimL_id hd]
theorem intL_range (n : Int) : ∀ x ∈ intL n, blk x = false ∧ x ≠ 59 := by
  have hb : ∀ x : UInt8, 45 ≤ x.toNat → x.toNat ≤ 57 → blk x = false ∧ x ≠ 59 := by
    intro x h1 h2
    refine ⟨?_, ?_⟩
    · unfold blk
      have e1 : x ≠ 32 := by intro h; rw [h] at h1; exact absurd h1 (by decide)
      have e2 : x ≠ 9 := by intro h; rw [h] at h1; exact absurd h1 (by decide)
      simp [e1, e2]
    · intro h; rw [h] at h2; exact absurd h2 (by decide)
  intro x hx
  unfold intL at hx
  split at hx
  · rcases List.mem_cons.1 hx with rfl | h
    · exact ⟨by decide, by decide⟩
    · have := dig_range (digL_all _) x h; exact hb x (by omega) (by omega)
  · have := dig_range (digL_all _) x hx; exact hb x (by omega) (by omega)
def mAGE : List UInt8 := [32, 77, 97, 120, 45, 65, 103, 101]
/-- When a cookie of so many seconds expires. -/
def agedN (now n : Int) : Int := if 0 < n then min (now + n) 253402300799 else 1
theorem agedN_pos {now n : Int} (h : 0 ≤ now) : 0 < agedN now n := by
  unfold agedN
  split
  · omega
  · omega
theorem step_age (now n : Int) (p : Hd × Int) (h : n ≤ 253402300799) : stepH now p (mAGE ++ 61 :: intL n) = (p.1, agedN now n) := by
  rw [step_eq now p mAGE (intL n) 2 (by decide) (by decide) (fun x hx => (intL_range n x hx).1)]
  refine Prod.ext rfl ?_
  show agK 2 p.2 now (mk (intL n)) = _
  unfold agK agedN
  rw [if_pos rfl, age_int n h]
  by_cases h0 : 0 < n
  · rw [if_neg (by rw [if_neg (by omega)]; omega), if_neg (by omega : ¬ n ≤ 0), if_pos h0, if_pos h0]
  · rw [if_pos (by rw [if_pos (by omega)]), if_neg h0]
theorem step_agex (now n : Int) (p : Hd × Int) : stepH now p (mAGE ++ 61 :: 120 :: intL n) = p := by
  rw [step_eq now p mAGE (120 :: intL n) 2 (by decide) (by decide) (by
    intro x hx
    rcases List.mem_cons.1 hx with rfl | h
    · decide
    · exact (intL_range n x h).1)]
  refine Prod.ext rfl ?_
  show agK 2 p.2 now (mk (120 :: intL n)) = _
  unfold agK
  rw [if_pos rfl, age_x, if_neg (by decide), if_neg (by decide)]
def sUN : List UInt8 := [32, 69, 120, 112, 105, 114, 101, 115, 61, 83, 117, 110, 44, 32, 48, 54, 32, 78, 111, 118, 32, 49, 57, 57, 52, 32, 48, 56, 58, 52, 57, 58, 51, 55, 32, 71, 77, 84]
theorem step_sun (now : Int) (p : Hd × Int) : ∃ t, stepH now p sUN = ({ p.1 with ex := t }, p.2) := by
  have h1 : kindN (nameS (mk sUN)) = 1 := by decide
  have h2 : attK 1 p.1 (valueS (mk sUN)) = (match cookO (valueS (mk sUN)) with | some t => { p.1 with ex := clampN t } | none => p.1) := rfl
  unfold stepH
  rw [h1, h2]
  unfold agK
  rw [if_neg (by decide)]
  split
  · exact ⟨_, rfl⟩
  · exact ⟨p.1.ex, rfl⟩
theorem age_ne59 (n : Int) : ∀ x ∈ mAGE ++ 61 :: intL n, x ≠ 59 := by
  intro x hx
  rcases List.mem_append.1 hx with h | h
  · exact (show ∀ x ∈ mAGE, x ≠ 59 by decide) x h
  rcases List.mem_cons.1 h with rfl | h
  · decide
  · exact (intL_range n x h).2
theorem agex_ne59 (n : Int) : ∀ x ∈ mAGE ++ 61 :: 120 :: intL n, x ≠ 59 := by
  intro x hx
  rcases List.mem_append.1 hx with h | h
  · exact (show ∀ x ∈ mAGE, x ≠ 59 by decide) x h
  rcases List.mem_cons.1 h with rfl | h
  · decide
  rcases List.mem_cons.1 h with rfl | h
  · decide
  · exact (intL_range n x h).2
theorem endH_age {p : Hd × Int} {a : Int} (h : 0 < a) : endH (p.1, a) = { endH p with ex := a } := by
  unfold endH
  dsimp only
  rw [if_pos h]
  split <;> rfl
theorem age_law1 {s : ByteArray} {now : Int} {h : Hd} (n : Int) (hn : n ≤ 253402300799) (hp : parH s now = some h) (t : ByteArray) (ht : bs t = bs s ++ 59 :: (mAGE ++ 61 :: intL n)) : parH t now = some { h with ex := agedN now n } := by
  obtain ⟨p, h1, rfl⟩ := par_some hp
  rw [par_more1 _ (age_ne59 n) h1 t ht, step_age now n p hn, endH_age (agedN_pos (par_now hp).1)]
theorem age_law2 {s : ByteArray} {now : Int} {h : Hd} (n : Int) (hn : n ≤ 253402300799) (hp : parH s now = some h) (t : ByteArray) (ht : bs t = bs s ++ 59 :: ((mAGE ++ 61 :: intL n) ++ 59 :: sUN)) : parH t now = some { h with ex := agedN now n } := by
  obtain ⟨p, h1, rfl⟩ := par_some hp
  obtain ⟨t1, h2⟩ := step_sun now (p.1, agedN now n)
  rw [par_P, ht, parP_more, h1, segs_app, segs_one (age_ne59 n), segs_one (l := sUN) (by decide)]
  show some (endH (stepH now (stepH now p (mAGE ++ 61 :: intL n)) sUN)) = _
  rw [step_age now n p hn, h2]
  have h3 := agedN_pos (now := now) (n := n) (par_now hp).1
  unfold endH
  dsimp only
  rw [if_pos h3]
  split <;> rfl
theorem age_law3 {s : ByteArray} {now : Int} {h : Hd} (n : Int) (hp : parH s now = some h) (t : ByteArray) (ht : bs t = bs s ++ 59 :: (mAGE ++ 61 :: 120 :: intL n)) : parH t now = some h := by
  obtain ⟨p, h1, rfl⟩ := par_some hp
  rw [par_more1 _ (agex_ne59 n) h1 t ht, step_agex]
end Go.Proofs.YtngamlikhgilhaaGreatDoor
/- What every statement of the chapter asks besides: one header, there and back. -/
namespace Go.Proofs.YtngamlikhgilhaaGreatDoor
open Go.RowKit Go.Shelf

def aL1 : ByteArray := ⟨#[97, 61, 98, 59, 32, 80, 97, 116, 104, 61, 47, 120, 59, 32, 83, 69, 67, 85, 82, 69, 59, 32, 109, 97, 120, 45, 97, 103, 101, 61, 53]⟩
def aH1 : Hd := ⟨⟨#[97]⟩, ⟨#[98]⟩, ⟨#[]⟩, ⟨#[47, 120]⟩, 105, true, false, 0⟩
theorem alive_p1 : parH aL1 100 = some aH1 := by
  have h1 : segs (bs aL1) = [[97, 61, 98], [32, 80, 97, 116, 104, 61, 47, 120], [32, 83, 69, 67, 85, 82, 69], [32, 109, 97, 120, 45, 97, 103, 101, 61, 53]] := by decide
  rw [par_P]
  unfold parP
  rw [h1, if_pos (by decide)]
  have h2 : ∀ p, stepH 100 p [32, 80, 97, 116, 104, 61, 47, 120] = ({ p.1 with pt := ⟨#[47, 120]⟩ }, p.2) := by
    intro p
    rw [step_lit 100 p [32, 80, 97, 116, 104, 61, 47, 120] 4 ⟨#[47, 120]⟩ (by decide) (by decide)]
    have h : preB ⟨#[47, 120]⟩ ⟨#[47]⟩ = true := by rw [pre_L]; decide
    unfold attK agK
    dsimp only
    rw [h, if_neg (by decide : ¬ (4 : Nat) = 2)]
    rfl
  have h3 : ∀ p, stepH 100 p [32, 83, 69, 67, 85, 82, 69] = ({ p.1 with se := true }, p.2) := fun p => step_lit 100 p _ 5 ⟨#[]⟩ (by decide) (by decide)
  have h4 : ∀ p, stepH 100 p [32, 109, 97, 120, 45, 97, 103, 101, 61, 53] = (p.1, 105) := by
    intro p
    rw [step_lit 100 p [32, 109, 97, 120, 45, 97, 103, 101, 61, 53] 2 (mk [53]) (by decide) (by decide)]
    have h : ageN (mk [53]) = 5 := by
      have := age_int 5 (by decide)
      rw [show intL 5 = [53] from digL_lt (by decide)] at this
      exact this
    refine Prod.ext rfl ?_
    show agK 2 p.2 100 (mk [53]) = _
    unfold agK
    rw [h]
    rfl
  rw [List.tail_cons, List.foldl_cons, List.foldl_cons, List.foldl_cons, List.foldl_nil, h2, h3, h4, List.headD_cons, show nameS (mk [97, 61, 98]) = ⟨#[97]⟩ by decide, show valueS (mk [97, 61, 98]) = ⟨#[98]⟩ by decide]
  rfl
theorem alive_p2 : parH ⟨#[61, 98]⟩ 100 = none := by
  unfold parH
  dsimp only
  rw [if_neg (by decide)]
def aH2 : Hd := ⟨⟨#[97]⟩, ⟨#[98]⟩, ⟨#[99]⟩, ⟨#[]⟩, 784111777, false, true, 1⟩
def aX : ByteArray := ⟨#[83, 117, 110, 44, 32, 48, 54, 32, 78, 111, 118, 32, 49, 57, 57, 52, 32, 48, 56, 58, 52, 57, 58, 51, 55, 32, 71, 77, 84]⟩
theorem alive_when : IsWhen 784111777 aX := ⟨0, 1994, 10, 6, 8, 49, 37, ⟨by decide, by decide, by decide, by decide, by decide, by decide, by decide, by decide, by decide⟩, by decide, by decide, by decide, by decide⟩
theorem alive_r2 : rightB aH2 = true := by decide
theorem alive_r1 : rightB aH1 = true := by decide
theorem alive_r0 : rightB zH = false := by decide
theorem acall_p1 (w : World) : Calls Tryz.prog 8 #[.string ⟨#[97, 61, 98, 59, 32, 80, 97, 116, 104, 61, 47, 120, 59, 32, 83, 69, 67, 85, 82, 69, 59, 32, 109, 97, 120, 45, 97, 103, 101, 61, 53]⟩, .int .i64 100] w fun e w' => e = .returned (.tuple #[.agg #[.string ⟨#[97]⟩, .string ⟨#[98]⟩, .string ⟨#[]⟩, .string ⟨#[47, 120]⟩, .int .i64 105, .bool true, .bool false, .int .i64 0], .bool true]) ∧ Below w.heap.size w w' := by
  refine (par_any aL1 100 w (by decide) (by decide) (by decide)).mono ?_
  rintro e w' ⟨rfl, hb⟩
  rw [alive_p1]
  exact ⟨rfl, hb⟩
theorem acall_p2 (w : World) : Calls Tryz.prog 8 #[.string ⟨#[61, 98]⟩, .int .i64 100] w fun e w' => e = .returned (.tuple #[.agg #[.string ⟨#[]⟩, .string ⟨#[]⟩, .string ⟨#[]⟩, .string ⟨#[]⟩, .int .i64 0, .bool false, .bool false, .int .i64 0], .bool false]) ∧ Below w.heap.size w w' := by
  refine (par_any ⟨#[61, 98]⟩ 100 w (by decide) (by decide) (by decide)).mono ?_
  rintro e w' ⟨rfl, hb⟩
  rw [alive_p2]
  exact ⟨rfl, hb⟩
theorem acall_print (w : World) (hm : HasMax w) : Calls Tryz.prog 10 #[.agg #[.string ⟨#[97]⟩, .string ⟨#[98]⟩, .string ⟨#[99]⟩, .string ⟨#[]⟩, .int .i64 784111777, .bool false, .bool true, .int .i64 1]] w fun e w' => e = .returned (.tuple #[.string (mk (printL aH2 aX)), .bool true]) ∧ Below w.heap.size w w' := by
  refine (print_yes ⟨#[97]⟩ ⟨#[98]⟩ ⟨#[99]⟩ ⟨#[]⟩ 784111777 false true 1 w (by decide) (by decide) hm alive_r2).mono ?_
  rintro e w' ⟨hb, ⟨h, -⟩ | ⟨-, x, hx, rfl⟩⟩
  · exact absurd (alive_r2.symm.trans h) (by decide)
  · rw [hx.uniq alive_when]
    exact ⟨rfl, hb⟩
theorem acall_r1 (w : World) (hm : HasMax w) : Calls Tryz.prog 12 #[.agg #[.string ⟨#[97]⟩, .string ⟨#[98]⟩, .string ⟨#[]⟩, .string ⟨#[47, 120]⟩, .int .i64 105, .bool true, .bool false, .int .i64 0]] w fun e w' => e = .returned (.bool true) ∧ Below w.heap.size w w' := by
  refine (right_all aH1 w (by decide) (by decide) (by decide) (by decide) hm).mono ?_
  rintro e w' ⟨rfl, hb⟩
  rw [alive_r1]
  exact ⟨rfl, hb⟩
theorem acall_r0 (w : World) (hm : HasMax w) : Calls Tryz.prog 12 #[.agg #[.string ⟨#[]⟩, .string ⟨#[]⟩, .string ⟨#[]⟩, .string ⟨#[]⟩, .int .i64 0, .bool false, .bool false, .int .i64 0]] w fun e w' => e = .returned (.bool false) ∧ Below w.heap.size w w' := by
  refine (right_all zH w (by decide) (by decide) (by decide) (by decide) hm).mono ?_
  rintro e w' ⟨rfl, hb⟩
  rw [alive_r0]
  exact ⟨rfl, hb⟩
set_option maxRecDepth 100000 in
theorem alive_any (w : World) (hm : HasMax w) : Calls Tryz.prog 7 #[] w fun e w' => e = .returned (.bool true) ∧ Below w.heap.size w w' := by
  have HM := Lib.hid (fun w1 (h : Below w.heap.size w w1) => max_keep hm h)
  clear hm
  have HT := Lib.hid (show mk (printL aH2 aX) = ⟨#[97, 61, 98, 59, 32, 68, 111, 109, 97, 105, 110, 61, 99, 59, 32, 69, 120, 112, 105, 114, 101, 115, 61, 83, 117, 110, 44, 32, 48, 54, 32, 78, 111, 118, 32, 49, 57, 57, 52, 32, 48, 56, 58, 52, 57, 58, 51, 55, 32, 71, 77, 84, 59, 32, 72, 116, 116, 112, 79, 110, 108, 121, 59, 32, 83, 97, 109, 101, 83, 105, 116, 101, 61, 76, 97, 120]⟩ by unfold printL; rw [toLh, toLh]; rfl)
  go_enter Tryz.func7, Tryz.ntmps7
  go_wp2_with fail
  refine (acall_p1 _).mono ?_
  rintro e w1 ⟨rfl, hb1⟩
  go_wp2_with fail
  have B1 := Lib.hid (BS.new w1 aH1 24)
  have k1 := hb1.size
  have HB1 := Lib.hid hb1
  clear hb1
  refine (acall_p2 _).mono ?_
  rintro e w2 ⟨rfl, hb2⟩
  have B2 := Lib.hid (B1.out.keep (hb2.mono (by rw [World.size_alloc]; exact Nat.le_refl _)))
  clear B1 hb2
  go_wp2_with fail
  have B3 := Lib.hid (B2.out.keep (((Below.refl w2.heap.size w2).alloc (Nat.le_refl _) (.cells (hdL zH).toArray 24)).mono B2.out.sz))
  refine (acall_print _ (HM.out _ (Below.trans HB1.out (B3.out.bel.mono k1)))).mono ?_
  rw [HT.out]
  rintro e w3 ⟨rfl, hb3⟩
  have B4 := Lib.hid (B3.out.keep (hb3.mono B3.out.sz))
  clear B2 B3 hb3 HT
  obtain ⟨c0, c1, c2, c3, c4, c5, c6, c7⟩ := B4.out.cells
  dsimp only [aH1] at c0 c1 c2 c3 c4 c5 c6 c7
  go_wp2_with fail
  refine (acall_r1 _ (HM.out _ (Below.trans HB1.out (B4.out.bel.mono k1)))).mono ?_
  rintro e w4 ⟨rfl, hb4⟩
  have B5 := Lib.hid (B4.out.keep (hb4.mono B4.out.sz))
  clear B4 hb4
  go_wp2_with fail
  refine (acall_r0 _ (HM.out _ (Below.trans HB1.out (B5.out.bel.mono k1)))).mono ?_
  rintro e w5 ⟨rfl, hb5⟩
  have B6 := Lib.hid (B5.out.keep (hb5.mono B5.out.sz))
  clear B5 hb5
  go_wp2_with fail
  go_ret
  exact ⟨rfl, Below.trans HB1.out (B6.out.bel.mono k1)⟩
end Go.Proofs.YtngamlikhgilhaaGreatDoor
