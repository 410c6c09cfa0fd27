/- The calendar in plain numbers: no program is named here. -/
namespace Go.Proofs.YtngamlikhgilhaaDoor

/-- Years with a day more. -/
def leapB (y : Int) : Bool := (y.tmod 4 == 0 && !(y.tmod 100 == 0)) || y.tmod 400 == 0
theorem leapB_iff (y : Int) : leapB y = true ↔ ((y % 4 = 0 ∧ y % 100 ≠ 0) ∨ y % 400 = 0) := by
  have h1 : y.tmod 4 = 0 ↔ y % 4 = 0 := by rw [← Int.dvd_iff_tmod_eq_zero, Int.dvd_iff_emod_eq_zero]
  have h2 : y.tmod 100 = 0 ↔ y % 100 = 0 := by rw [← Int.dvd_iff_tmod_eq_zero, Int.dvd_iff_emod_eq_zero]
  have h3 : y.tmod 400 = 0 ↔ y % 400 = 0 := by rw [← Int.dvd_iff_tmod_eq_zero, Int.dvd_iff_emod_eq_zero]
  simp [leapB, h1, h2, h3]

/-- How long a month is in such a year. -/
def mlen (b : Bool) (m : Int) : Int := if m = 2 then (if b then 29 else 28) else if m = 4 ∨ m = 6 ∨ m = 9 ∨ m = 11 then 30 else 31
/-- How many days of the year lie ahead of a month. -/
def cum (b : Bool) (m : Int) : Int :=
  if m = 1 then 0 else if m = 2 then 31 else (if b then 1 else 0) + (if m = 3 then 59 else if m = 4 then 90 else if m = 5 then 120 else if m = 6 then 151 else if m = 7 then 181 else
    if m = 8 then 212 else if m = 9 then 243 else if m = 10 then 273 else if m = 11 then 304 else if m = 12 then 334 else 365)
theorem cum_succ (b : Bool) (m : Int) (h1 : 1 ≤ m) (h2 : m ≤ 12) : cum b (m + 1) = cum b m + mlen b m := by
  have : m = 1 ∨ m = 2 ∨ m = 3 ∨ m = 4 ∨ m = 5 ∨ m = 6 ∨ m = 7 ∨ m = 8 ∨ m = 9 ∨ m = 10 ∨ m = 11 ∨ m = 12 := by omega
  cases b <;> rcases this with rfl | rfl | rfl | rfl | rfl | rfl | rfl | rfl | rfl | rfl | rfl | rfl <;> decide
theorem mlen_bd (b : Bool) (m : Int) : 28 ≤ mlen b m ∧ mlen b m ≤ 31 := by
  unfold mlen
  cases b <;> simp <;> split <;> (try split) <;> omega
theorem cum_bd (b : Bool) (m : Int) (h1 : 1 ≤ m) (h2 : m ≤ 13) : 0 ≤ cum b m ∧ cum b m ≤ 366 := by
  have : m = 1 ∨ m = 2 ∨ m = 3 ∨ m = 4 ∨ m = 5 ∨ m = 6 ∨ m = 7 ∨ m = 8 ∨ m = 9 ∨ m = 10 ∨ m = 11 ∨ m = 12 ∨ m = 13 := by omega
  cases b <;> rcases this with rfl | rfl | rfl | rfl | rfl | rfl | rfl | rfl | rfl | rfl | rfl | rfl | rfl <;> decide
theorem cum_1 (b : Bool) : cum b 1 = 0 := rfl
theorem cum_13 (b : Bool) : cum b 13 = if b then 366 else 365 := by cases b <;> decide

/-- A month's length, 0 where there is none. -/
def lenI (y m : Int) : Int := if 1 ≤ y ∧ y ≤ 9999 ∧ 1 ≤ m ∧ m ≤ 12 then mlen (leapB y) m else 0
theorem lenI_in {y m : Int} (h1 : 1 ≤ y) (h2 : y ≤ 9999) (h3 : 1 ≤ m) (h4 : m ≤ 12) : lenI y m = mlen (leapB y) m := if_pos ⟨h1, h2, h3, h4⟩
theorem lenI_bd (y m : Int) : 0 ≤ lenI y m ∧ lenI y m ≤ 31 := by
  unfold lenI
  have := mlen_bd (leapB y) m
  split <;> omega
/-- Days ahead of a year. -/
def ahead (y : Int) : Int := 365 * (y - 1) + (y - 1) / 4 - (y - 1) / 100 + (y - 1) / 400
/-- A year's length. -/
def ylen (y : Int) : Int := if leapB y then 366 else 365
theorem ahead_succ (y : Int) : ahead (y + 1) = ahead y + ylen y := by
  have h := leapB_iff y
  unfold ahead ylen
  cases hb : leapB y
  · have h' : ¬((y % 4 = 0 ∧ y % 100 ≠ 0) ∨ y % 400 = 0) := fun h2 => by rw [h.2 h2] at hb; cases hb
    simp only [Bool.false_eq_true, if_false]
    omega
  · have h' := h.1 hb
    simp only [if_true]
    omega
theorem ahead_1970 : ahead 1970 = 719162 := by decide
theorem ahead_10000 : ahead 10000 = 3652059 := by decide
theorem ahead_1 : ahead 1 = 0 := by decide
theorem ylen_bd (y : Int) : 365 ≤ ylen y ∧ ylen y ≤ 366 := by unfold ylen; split <;> omega
theorem ahead_mono {a b : Int} (h : a ≤ b) : ahead a ≤ ahead b := by unfold ahead; omega
theorem ahead_lt {a b : Int} (h : a < b) : ahead a + 365 ≤ ahead b := by unfold ahead; omega
theorem ahead_bd {y : Int} (h1 : 1 ≤ y) (h2 : y ≤ 10000) : 0 ≤ ahead y ∧ ahead y ≤ 3652059 := by
  have := ahead_mono h1
  have := ahead_mono h2
  rw [ahead_1] at *
  rw [ahead_10000] at *
  omega
theorem ahead_guess {n : Int} (h0 : 0 ≤ n) (_h1 : n < 3652059) : ahead (4 * (n / 1461) + 1) ≤ n := by unfold ahead; omega
theorem ahead_guess_le {n : Int} (h0 : 0 ≤ n) (h1 : n < 3652059) : 1 ≤ 4 * (n / 1461) + 1 ∧ 4 * (n / 1461) + 1 ≤ 9999 := by omega

/-- A day that there is. -/
def vld (y m d : Int) : Prop := 1 ≤ y ∧ y ≤ 9999 ∧ 1 ≤ m ∧ m ≤ 12 ∧ 1 ≤ d ∧ d ≤ mlen (leapB y) m
/-- How far it is from the first one of 1970. -/
def num (y m d : Int) : Int := ahead y + cum (leapB y) m + d - 1 - 719162
theorem vld_len {y m d : Int} : vld y m d ↔ 1 ≤ d ∧ d ≤ lenI y m := by
  unfold vld lenI
  split <;> constructor <;> intro h
  · exact ⟨h.2.2.2.2.1, h.2.2.2.2.2⟩
  · rename_i h0
    exact ⟨h0.1, h0.2.1, h0.2.2.1, h0.2.2.2, h.1, h.2⟩
  · omega
  · omega
theorem cum_top {y m d : Int} (h : vld y m d) : cum (leapB y) m + d ≤ ylen y := by
  obtain ⟨_, _, h3, h4, _, h6⟩ := h
  have h7 : ∀ k : Nat, m + 1 + k ≤ 13 → cum (leapB y) (m + 1) ≤ cum (leapB y) (m + 1 + k) := by
    intro k
    induction k with
    | zero => intro _; simp
    | succ k ih =>
      intro hk
      have h8 := cum_succ (leapB y) (m + 1 + k) (by omega) (by omega)
      have h9 := mlen_bd (leapB y) (m + 1 + k)
      have := ih (by omega)
      rw [show m + 1 + ((k + 1 : Nat) : Int) = m + 1 + k + 1 by omega]
      omega
  have h8 := h7 (12 - m).toNat (by omega)
  rw [show m + 1 + ((12 - m).toNat : Int) = 13 by omega, cum_13, cum_succ _ _ h3 h4] at h8
  unfold ylen
  omega
theorem cum_mono {b : Bool} {m m' : Int} (h1 : 1 ≤ m) (h : m < m') (h2 : m' ≤ 13) : cum b m + mlen b m ≤ cum b m' := by
  have h7 : ∀ k : Nat, m + 1 + k ≤ 13 → cum b (m + 1) ≤ cum b (m + 1 + k) := by
    intro k
    induction k with
    | zero => intro _; simp
    | succ k ih =>
      intro hk
      have h8 := cum_succ b (m + 1 + k) (by omega) (by omega)
      have h9 := mlen_bd b (m + 1 + k)
      have := ih (by omega)
      rw [show m + 1 + ((k + 1 : Nat) : Int) = m + 1 + k + 1 by omega]
      omega
  have h8 := h7 (m' - m - 1).toNat (by omega)
  rw [show m + 1 + ((m' - m - 1).toNat : Int) = m' by omega, cum_succ _ _ h1 (by omega)] at h8
  exact h8
theorem cum_nonneg {b : Bool} {m : Int} (h1 : 1 ≤ m) (h2 : m ≤ 12) : 0 ≤ cum b m := (cum_bd b m h1 (by omega)).1
theorem num_bd {y m d : Int} (h : vld y m d) : -719162 ≤ num y m d ∧ num y m d ≤ 2932896 := by
  have h1 := cum_top h
  obtain ⟨h2, h3, h4, h5, h6, _⟩ := h
  have h8 := ahead_succ y
  have h9 := ahead_mono (show y + 1 ≤ 10000 by omega)
  have h10 := ahead_mono h2
  rw [ahead_10000] at h9
  rw [ahead_1] at h10
  have := cum_nonneg (b := leapB y) h4 h5
  unfold num
  omega
/-- Which day is the earlier one. -/
def dlt (y m d y' m' d' : Int) : Prop := y < y' ∨ (y = y' ∧ (m < m' ∨ (m = m' ∧ d < d')))
theorem num_lt {y m d y' m' d' : Int} (h : vld y m d) (h' : vld y' m' d') (hl : dlt y m d y' m' d') : num y m d < num y' m' d' := by
  have g1 := cum_top h
  have g2 := ahead_succ y
  obtain ⟨h2, h3, h4, h5, h6, h7⟩ := h
  obtain ⟨h2', h3', h4', h5', h6', h7'⟩ := h'
  have := cum_nonneg (b := leapB y') h4' h5'
  unfold num
  rcases hl with hl | ⟨rfl, hl | ⟨rfl, hl⟩⟩
  · have := ahead_mono (show y + 1 ≤ y' by omega)
    omega
  · have := cum_mono (b := leapB y) h4 hl (by omega)
    omega
  · omega
theorem num_inj {y m d y' m' d' : Int} (h : vld y m d) (h' : vld y' m' d') (e : num y m d = num y' m' d') : y = y' ∧ m = m' ∧ d = d' := by
  by_cases h1 : dlt y m d y' m' d'
  · have := num_lt h h' h1; omega
  · by_cases h2 : dlt y' m' d' y m d
    · have := num_lt h' h h2; omega
    · unfold dlt at h1 h2; omega
/-- The day of the week. -/
def wday (n : Int) : Int := (n + 4) % 7

/-- A clock that there is, and its seconds. -/
def vclk (y m d h n s : Int) : Prop := vld y m d ∧ 0 ≤ h ∧ h ≤ 23 ∧ 0 ≤ n ∧ n ≤ 59 ∧ 0 ≤ s ∧ s ≤ 59
def secs (y m d h n s : Int) : Int := 86400 * num y m d + 3600 * h + 60 * n + s
theorem secs_bd {y m d h n s : Int} (v : vclk y m d h n s) : -62135596800 ≤ secs y m d h n s ∧ secs y m d h n s ≤ 253402300799 := by
  obtain ⟨v, _⟩ := v
  have := num_bd v
  unfold secs
  omega
def clt (y m d h n s y' m' d' h' n' s' : Int) : Prop := dlt y m d y' m' d' ∨ (y = y' ∧ m = m' ∧ d = d' ∧ (h < h' ∨ (h = h' ∧ (n < n' ∨ (n = n' ∧ s < s')))))
theorem secs_lt {y m d h n s y' m' d' h' n' s' : Int} (v : vclk y m d h n s) (v' : vclk y' m' d' h' n' s') (hl : clt y m d h n s y' m' d' h' n' s') : secs y m d h n s < secs y' m' d' h' n' s' := by
  obtain ⟨v, _⟩ := v
  obtain ⟨v', _⟩ := v'
  unfold secs
  rcases hl with hl | ⟨rfl, rfl, rfl, hl⟩
  · have := num_lt v v' hl
    omega
  · omega
theorem secs_inj {y m d h n s y' m' d' h' n' s' : Int} (v : vclk y m d h n s) (v' : vclk y' m' d' h' n' s') (e : secs y m d h n s = secs y' m' d' h' n' s') : y = y' ∧ m = m' ∧ d = d' ∧ h = h' ∧ n = n' ∧ s = s' := by
  by_cases h1 : clt y m d h n s y' m' d' h' n' s'
  · have := secs_lt v v' h1; omega
  · by_cases h2 : clt y' m' d' h' n' s' y m d h n s
    · have := secs_lt v' v h2; omega
    · unfold clt dlt at h1 h2; omega
end Go.Proofs.YtngamlikhgilhaaDoor
