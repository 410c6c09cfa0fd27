/- Headers: plain laws: how long a cookie lives. -/
import Derived.Test.YtngamlikhgilhaaDoorHdrP
namespace Go.Proofs.YtngamlikhgilhaaDoor
open Go.RowKit

theorem digL_all (n : Nat) : allD (digL n) = true := by
  induction n using Nat.strongRecOn with
  | ind n ih =>
    have hd : ∀ k : Nat, allD [UInt8.ofNat (48 + k % 10)] = true := by
      intro k
      unfold allD
      rw [List.all_cons, List.all_nil, Bool.and_true, dig_iff, dig_of]
      omega
    by_cases h : n < 10
    · rw [digL_lt h]
      have := hd n
      rwa [Nat.mod_eq_of_lt h] at this
    · rw [digL_ge (by omega)]
      have h1 := ih (n / 10) (by omega)
      have h2 := hd n
      unfold allD at h1 h2 ⊢
      rw [List.all_append, h1, h2]
      rfl
theorem digL_dec (n : Nat) : decV (digL n) = n := by
  induction n using Nat.strongRecOn with
  | ind n ih =>
    by_cases h : n < 10
    · rw [digL_lt h, ← List.nil_append [UInt8.ofNat (48 + n)], decV_snoc, decV_nil]
      have := dig_of n
      rw [Nat.mod_eq_of_lt h] at this
      rw [this]
      omega
    · rw [digL_ge (by omega), decV_snoc, ih (n / 10) (by omega), dig_of]
      omega
theorem digL_head (n : Nat) (h0 : 0 < n) : ∃ x l, digL n = x :: l ∧ x ≠ 48 := by
  induction n using Nat.strongRecOn with
  | ind n ih =>
    by_cases h : n < 10
    · refine ⟨_, _, digL_lt h, ?_⟩
      intro h9
      have h8 := congrArg UInt8.toNat h9
      have := dig_of n
      rw [Nat.mod_eq_of_lt h] at this
      rw [this] at h8
      have h7 : (48 : UInt8).toNat = 48 := rfl
      omega
    · obtain ⟨x, l, h1, h2⟩ := ih (n / 10) (by omega) (by omega)
      exact ⟨x, l ++ [UInt8.ofNat (48 + n % 10)], by rw [digL_ge (by omega), h1]; rfl, h2⟩
theorem dig_range {l : List UInt8} (h : allD l = true) : ∀ x ∈ l, 48 ≤ x.toNat ∧ x.toNat ≤ 57 := by
  intro x hx
  have h1 := List.all_eq_true.1 h x hx
  rw [dig_iff] at h1
  omega
theorem noz_pos (n : Nat) (h : 0 < n) : nozS (mk (digL n)) = mk (digL n) := by
  obtain ⟨x, l, h1, h2⟩ := digL_head n h
  unfold nozS
  rw [bs_mk, h1, List.dropWhile_cons, if_neg (by simpa using h2)]
theorem pre_list (v p : ByteArray) : preB v p = Lib.hasPrefix v.data.toList p.data.toList := by
  unfold preB
  rw [← Lib.hasPrefix_raw (p := p)]
theorem pre_mk (x : UInt8) (l : List UInt8) : preB (mk (x :: l)) ⟨#[45]⟩ = (x == 45) := by
  rw [pre_list]
  show Lib.hasPrefix (x :: l) [45] = _
  simp [Lib.hasPrefix, List.isPrefixOf]
  exact Bool.beq_comm
theorem cut_minus (l : List UInt8) : cutS (mk (45 :: l)) ⟨#[45]⟩ = mk l := by
  unfold cutS
  rw [pre_mk, if_pos (by decide)]
  apply bs_inj
  show bs ((mk (45 :: l)).extract 1 _) = _
  rw [bs_extract, bs_mk, bs_mk, size_mk]
  simp
theorem cut_plain {x : UInt8} {l : List UInt8} (h : x ≠ 45) : cutS (mk (x :: l)) ⟨#[45]⟩ = mk (x :: l) := by
  unfold cutS
  rw [pre_mk, if_neg (by simpa using h)]
theorem mk_ne {x : UInt8} {l : List UInt8} : mk (x :: l) ≠ ⟨#[]⟩ := by
  intro h
  have := congrArg bs h
  rw [bs_mk] at this
  cases this
theorem digL_cons (n : Nat) : ∃ x l, digL n = x :: l ∧ x ≠ 45 := by
  cases h : digL n with
  | nil => have := digL_pos n; rw [h] at this; cases this
  | cons x l =>
    refine ⟨x, l, rfl, ?_⟩
    have := dig_range (digL_all n) x (by rw [h]; exact List.mem_cons_self ..)
    intro h9
    rw [h9] at this
    have h7 : (45 : UInt8).toNat = 45 := rfl
    omega
/-- A number's text, with a minus too. -/
def intL (n : Int) : List UInt8 := if n < 0 then 45 :: digL n.natAbs else digL n.natAbs
theorem age_int (n : Int) (h : n ≤ 253402300799) : ageN (mk (intL n)) = if n ≤ 0 then 0 else n := by
  unfold intL
  by_cases h0 : n < 0
  · rw [if_pos h0, if_pos (by omega)]
    obtain ⟨x, l, h1, _⟩ := digL_cons n.natAbs
    unfold ageN ageD
    rw [pre_mk, cut_minus, bs_mk, digL_all, if_neg (by rw [h1]; simp [mk_ne]), if_pos (Or.inl (by decide))]
  · rw [if_neg h0]
    obtain ⟨x, l, h1, h2⟩ := digL_cons n.natAbs
    have e1 : preB (mk (digL n.natAbs)) ⟨#[45]⟩ = false := by rw [h1, pre_mk]; simpa using h2
    have e2 : cutS (mk (digL n.natAbs)) ⟨#[45]⟩ = mk (digL n.natAbs) := by rw [h1, cut_plain h2]
    have e3 : mk (digL n.natAbs) ≠ ⟨#[]⟩ := by rw [h1]; exact mk_ne
    unfold ageN ageD
    rw [e1, e2, bs_mk, digL_all, if_neg (by simp [e3])]
    by_cases hz : n = 0
    · subst hz
      rw [if_pos (Or.inr (by rw [show digL (Int.natAbs 0) = [48] from digL_lt (by decide)]; decide)), if_pos (by decide)]
    · rw [noz_pos _ (by omega), if_neg (by simp [e3]), size_mk, bs_mk, digL_dec]
      have h5 := digL_len 12 n.natAbs (by decide) (by rw [show (10 : Nat) ^ 12 = 1000000000000 from rfl]; omega)
      rw [if_neg (by omega), if_neg (by omega)]
      omega
theorem age_x (l : List UInt8) : ageN (mk (120 :: l)) = -1 := by
  unfold ageN ageD
  rw [cut_plain (by decide), bs_mk, if_pos (Or.inr (by rfl))]
theorem trimL_id {l : List UInt8} (h : ∀ x ∈ l, blk x = false) : trimL l = l := by
  have key : ∀ l : List UInt8, (∀ x ∈ l, blk x = false) → l.dropWhile blk = l := by
    intro l h
    cases l with
    | nil => rfl
    | cons x l => rw [List.dropWhile_cons, if_neg (by rw [h x (List.mem_cons_self ..)]; decide)]
  unfold trimL rdw
  rw [key l.reverse (fun x hx => h x (List.mem_reverse.1 hx)), List.reverse_reverse, key l h]
theorem cutL_at {a : List UInt8} (h : ∀ x ∈ a, x ≠ 61) (d : List UInt8) : cutL 61 (a ++ 61 :: d) = (a, d, true) := by
  induction a with
  | nil => rw [List.nil_append, cutL, if_pos rfl]
  | cons x a ih =>
    rw [List.cons_append, cutL, if_neg (h x (List.mem_cons_self ..)), ih (fun y hy => h y (List.mem_cons_of_mem _ hy))]
theorem step_eq (now : Int) (p : Hd × Int) (a d : List UInt8) (k : Nat) (ha : ∀ x ∈ a, x ≠ 61) (hk : kindN (trimS (mk a)) = k) (hd : ∀ x ∈ d, blk x = false) : stepH now p (a ++ 61 :: d) = (attK k p.1 (mk d), agK k p.2 now (mk d)) := by
  refine step_lit now p _ k _ ?_ ?_
  · unfold nameS
    rw [bs_mk, cutL_at ha]
    exact hk
  · unfold valueS trimS
    rw [bs_mk (a ++ 61 :: d), cutL_at ha, bs_mk, trimL_id hd]
theorem intL_range (n : Int) : ∀ x ∈ intL n, blk x = false ∧ x ≠ 59 := by
  have hb : ∀ x : UInt8, 45 ≤ x.toNat → x.toNat ≤ 57 → blk x = false ∧ x ≠ 59 := by
    intro x h1 h2
    refine ⟨?_, ?_⟩
    · unfold blk
      have e1 : x ≠ 32 := by intro h; rw [h] at h1; exact absurd h1 (by decide)
      have e2 : x ≠ 9 := by intro h; rw [h] at h1; exact absurd h1 (by decide)
      simp [e1, e2]
    · intro h; rw [h] at h2; exact absurd h2 (by decide)
  intro x hx
  unfold intL at hx
  split at hx
  · rcases List.mem_cons.1 hx with rfl | h
    · exact ⟨by decide, by decide⟩
    · have := dig_range (digL_all _) x h; exact hb x (by omega) (by omega)
  · have := dig_range (digL_all _) x hx; exact hb x (by omega) (by omega)
def mAGE : List UInt8 := [32, 77, 97, 120, 45, 65, 103, 101]
/-- When a cookie of so many seconds expires. -/
def agedN (now n : Int) : Int := if 0 < n then min (now + n) 253402300799 else 1
theorem agedN_pos {now n : Int} (h : 0 ≤ now) : 0 < agedN now n := by
  unfold agedN
  split
  · omega
  · omega
theorem step_age (now n : Int) (p : Hd × Int) (h : n ≤ 253402300799) : stepH now p (mAGE ++ 61 :: intL n) = (p.1, agedN now n) := by
  rw [step_eq now p mAGE (intL n) 2 (by decide) (by decide) (fun x hx => (intL_range n x hx).1)]
  refine Prod.ext rfl ?_
  show agK 2 p.2 now (mk (intL n)) = _
  unfold agK agedN
  rw [if_pos rfl, age_int n h]
  by_cases h0 : 0 < n
  · rw [if_neg (by rw [if_neg (by omega)]; omega), if_neg (by omega : ¬ n ≤ 0), if_pos h0, if_pos h0]
  · rw [if_pos (by rw [if_pos (by omega)]), if_neg h0]
theorem step_agex (now n : Int) (p : Hd × Int) : stepH now p (mAGE ++ 61 :: 120 :: intL n) = p := by
  rw [step_eq now p mAGE (120 :: intL n) 2 (by decide) (by decide) (by
    intro x hx
    rcases List.mem_cons.1 hx with rfl | h
    · decide
    · exact (intL_range n x h).1)]
  refine Prod.ext rfl ?_
  show agK 2 p.2 now (mk (120 :: intL n)) = _
  unfold agK
  rw [if_pos rfl, age_x, if_neg (by decide), if_neg (by decide)]
def sUN : List UInt8 := [32, 69, 120, 112, 105, 114, 101, 115, 61, 83, 117, 110, 44, 32, 48, 54, 32, 78, 111, 118, 32, 49, 57, 57, 52, 32, 48, 56, 58, 52, 57, 58, 51, 55, 32, 71, 77, 84]
theorem step_sun (now : Int) (p : Hd × Int) : ∃ t, stepH now p sUN = ({ p.1 with ex := t }, p.2) := by
  have h1 : kindN (nameS (mk sUN)) = 1 := by decide
  have h2 : attK 1 p.1 (valueS (mk sUN)) = (match cookO (valueS (mk sUN)) with | some t => { p.1 with ex := clampN t } | none => p.1) := rfl
  unfold stepH
  rw [h1, h2]
  unfold agK
  rw [if_neg (by decide)]
  split
  · exact ⟨_, rfl⟩
  · exact ⟨p.1.ex, rfl⟩
theorem age_ne59 (n : Int) : ∀ x ∈ mAGE ++ 61 :: intL n, x ≠ 59 := by
  intro x hx
  rcases List.mem_append.1 hx with h | h
  · exact (show ∀ x ∈ mAGE, x ≠ 59 by decide) x h
  rcases List.mem_cons.1 h with rfl | h
  · decide
  · exact (intL_range n x h).2
theorem agex_ne59 (n : Int) : ∀ x ∈ mAGE ++ 61 :: 120 :: intL n, x ≠ 59 := by
  intro x hx
  rcases List.mem_append.1 hx with h | h
  · exact (show ∀ x ∈ mAGE, x ≠ 59 by decide) x h
  rcases List.mem_cons.1 h with rfl | h
  · decide
  rcases List.mem_cons.1 h with rfl | h
  · decide
  · exact (intL_range n x h).2
theorem endH_age {p : Hd × Int} {a : Int} (h : 0 < a) : endH (p.1, a) = { endH p with ex := a } := by
  unfold endH
  dsimp only
  rw [if_pos h]
  split <;> rfl
theorem age_law1 {s : ByteArray} {now : Int} {h : Hd} (n : Int) (hn : n ≤ 253402300799) (hp : parH s now = some h) (t : ByteArray) (ht : bs t = bs s ++ 59 :: (mAGE ++ 61 :: intL n)) : parH t now = some { h with ex := agedN now n } := by
  obtain ⟨p, h1, rfl⟩ := par_some hp
  rw [par_more1 _ (age_ne59 n) h1 t ht, step_age now n p hn, endH_age (agedN_pos (par_now hp).1)]
theorem age_law2 {s : ByteArray} {now : Int} {h : Hd} (n : Int) (hn : n ≤ 253402300799) (hp : parH s now = some h) (t : ByteArray) (ht : bs t = bs s ++ 59 :: ((mAGE ++ 61 :: intL n) ++ 59 :: sUN)) : parH t now = some { h with ex := agedN now n } := by
  obtain ⟨p, h1, rfl⟩ := par_some hp
  obtain ⟨t1, h2⟩ := step_sun now (p.1, agedN now n)
  rw [par_P, ht, parP_more, h1, segs_app, segs_one (age_ne59 n), segs_one (l := sUN) (by decide)]
  show some (endH (stepH now (stepH now p (mAGE ++ 61 :: intL n)) sUN)) = _
  rw [step_age now n p hn, h2]
  have h3 := agedN_pos (now := now) (n := n) (par_now hp).1
  unfold endH
  dsimp only
  rw [if_pos h3]
  split <;> rfl
theorem age_law3 {s : ByteArray} {now : Int} {h : Hd} (n : Int) (hp : parH s now = some h) (t : ByteArray) (ht : bs t = bs s ++ 59 :: (mAGE ++ 61 :: 120 :: intL n)) : parH t now = some h := by
  obtain ⟨p, h1, rfl⟩ := par_some hp
  rw [par_more1 _ (agex_ne59 n) h1 t ht, step_agex]
end Go.Proofs.YtngamlikhgilhaaDoor
