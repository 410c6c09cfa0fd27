/- The contract of the reference's value; read by digits: the plain law. -/
import Derived.Test.YtmcjabmkacfilaaDoorLinT
namespace Go.Proofs.YtmcjabmkacfilaaDoor
open Go.RowKit Go.Shelf

/-- A digit's number. -/
def valO (c : UInt8) : Option Nat := if 48 ≤ c.toNat ∧ c.toNat ≤ 57 then some (c.toNat - 48) else if 65 ≤ c.toNat ∧ c.toNat ≤ 70 then some (c.toNat - 55) else none
def valV (o : Option Nat) : Value := .tuple #[.int .u8 ((o.getD 0 : Nat) : Int), .bool o.isSome]
theorem val_all : ∀ n : Fin 256, (valO (UInt8.ofNat n.val)).all (fun v => decide (v < 16) && (hexB v == UInt8.ofNat n.val)) = true := by decide +kernel
theorem val_hex_all : ∀ n : Fin 16, valO (hexB n.val) = some n.val := by decide +kernel
theorem val_some {c : UInt8} {v : Nat} (h : valO c = some v) : v < 16 ∧ hexB v = c := by
  have := val_all ⟨c.toNat, UInt8.toNat_lt c⟩
  simp only [UInt8.ofNat_toNat, h, Option.all_some, Bool.and_eq_true, decide_eq_true_eq, beq_iff_eq] at this
  exact this
set_option maxRecDepth 100000 in
set_option maxHeartbeats 1000000 in
theorem rvalue_any (c : UInt8) (w : World) : Calls Tryd.prog 44 #[.int .u8 (c.toNat : Int)] w fun e w' => e = .returned (valV (valO c)) ∧ w = w' := by
  have hb : c.toNat < 256 := UInt8.toNat_lt c
  have hr : (0 ≤ c.toNat ∧ c.toNat ≤ 47) ∨ (48 ≤ c.toNat ∧ c.toNat ≤ 57) ∨ (58 ≤ c.toNat ∧ c.toNat ≤ 64) ∨ (65 ≤ c.toNat ∧ c.toNat ≤ 70) ∨ (71 ≤ c.toNat ∧ c.toNat ≤ 255) := by omega
  rcases hr with ⟨h1, h2⟩ | ⟨h1, h2⟩ | ⟨h1, h2⟩ | ⟨h1, h2⟩ | ⟨h1, h2⟩
  · have HN := Lib.hid (show valO c = none by unfold valO; rw [if_neg (by omega), if_neg (by omega)])
    have t0 : ¬ ((48 : Int) ≤ (c.toNat : Int)) := by omega
    have u0 : decide ((48 : Int) ≤ (c.toNat : Int)) = false := decide_eq_false t0
    have t1 : ((c.toNat : Int) ≤ (57 : Int)) := by omega
    have u1 : decide ((c.toNat : Int) ≤ (57 : Int)) = true := decide_eq_true t1
    have t2 : ¬ ((65 : Int) ≤ (c.toNat : Int)) := by omega
    have u2 : decide ((65 : Int) ≤ (c.toNat : Int)) = false := decide_eq_false t2
    have t3 : ((c.toNat : Int) ≤ (70 : Int)) := by omega
    have u3 : decide ((c.toNat : Int) ≤ (70 : Int)) = true := decide_eq_true t3
    go_enter Tryd.func44, Tryd.ntmps44
    go_wp2_with fail
    go_ret2
    exact ⟨by rw [HN.out]; rfl, rfl⟩
  · have HN := Lib.hid (show valO c = some (c.toNat - 48) by unfold valO; rw [if_pos ⟨h1, h2⟩])
    have t0 : ((48 : Int) ≤ (c.toNat : Int)) := by omega
    have u0 : decide ((48 : Int) ≤ (c.toNat : Int)) = true := decide_eq_true t0
    have t1 : ((c.toNat : Int) ≤ (57 : Int)) := by omega
    have u1 : decide ((c.toNat : Int) ≤ (57 : Int)) = true := decide_eq_true t1
    have t2 : ¬ ((65 : Int) ≤ (c.toNat : Int)) := by omega
    have u2 : decide ((65 : Int) ≤ (c.toNat : Int)) = false := decide_eq_false t2
    have t3 : ((c.toNat : Int) ≤ (70 : Int)) := by omega
    have u3 : decide ((c.toNat : Int) ≤ (70 : Int)) = true := decide_eq_true t3
    have HV := Lib.hid (show (c.toNat : Int) - 48 = ((c.toNat - 48 : Nat) : Int) by omega)
    go_enter Tryd.func44, Tryd.ntmps44
    go_wp2_with fail
    go_ret2
    exact ⟨by rw [HN.out]; show Ending.returned (.tuple #[.int .u8 ((c.toNat : Int) - 48), .bool true]) = _; rw [HV.out]; rfl, rfl⟩
  · have HN := Lib.hid (show valO c = none by unfold valO; rw [if_neg (by omega), if_neg (by omega)])
    have t0 : ((48 : Int) ≤ (c.toNat : Int)) := by omega
    have u0 : decide ((48 : Int) ≤ (c.toNat : Int)) = true := decide_eq_true t0
    have t1 : ¬ ((c.toNat : Int) ≤ (57 : Int)) := by omega
    have u1 : decide ((c.toNat : Int) ≤ (57 : Int)) = false := decide_eq_false t1
    have t2 : ¬ ((65 : Int) ≤ (c.toNat : Int)) := by omega
    have u2 : decide ((65 : Int) ≤ (c.toNat : Int)) = false := decide_eq_false t2
    have t3 : ((c.toNat : Int) ≤ (70 : Int)) := by omega
    have u3 : decide ((c.toNat : Int) ≤ (70 : Int)) = true := decide_eq_true t3
    go_enter Tryd.func44, Tryd.ntmps44
    go_wp2_with fail
    go_ret2
    exact ⟨by rw [HN.out]; rfl, rfl⟩
  · have HN := Lib.hid (show valO c = some (c.toNat - 55) by unfold valO; rw [if_neg (by omega), if_pos ⟨h1, h2⟩])
    have t0 : ((48 : Int) ≤ (c.toNat : Int)) := by omega
    have u0 : decide ((48 : Int) ≤ (c.toNat : Int)) = true := decide_eq_true t0
    have t1 : ¬ ((c.toNat : Int) ≤ (57 : Int)) := by omega
    have u1 : decide ((c.toNat : Int) ≤ (57 : Int)) = false := decide_eq_false t1
    have t2 : ((65 : Int) ≤ (c.toNat : Int)) := by omega
    have u2 : decide ((65 : Int) ≤ (c.toNat : Int)) = true := decide_eq_true t2
    have t3 : ((c.toNat : Int) ≤ (70 : Int)) := by omega
    have u3 : decide ((c.toNat : Int) ≤ (70 : Int)) = true := decide_eq_true t3
    have HV := Lib.hid (show (c.toNat : Int) - 55 = ((c.toNat - 55 : Nat) : Int) by omega)
    go_enter Tryd.func44, Tryd.ntmps44
    go_wp2_with fail
    go_ret2
    exact ⟨by rw [HN.out]; show Ending.returned (.tuple #[.int .u8 ((c.toNat : Int) - 55), .bool true]) = _; rw [HV.out]; rfl, rfl⟩
  · have HN := Lib.hid (show valO c = none by unfold valO; rw [if_neg (by omega), if_neg (by omega)])
    have t0 : ((48 : Int) ≤ (c.toNat : Int)) := by omega
    have u0 : decide ((48 : Int) ≤ (c.toNat : Int)) = true := decide_eq_true t0
    have t1 : ¬ ((c.toNat : Int) ≤ (57 : Int)) := by omega
    have u1 : decide ((c.toNat : Int) ≤ (57 : Int)) = false := decide_eq_false t1
    have t2 : ((65 : Int) ≤ (c.toNat : Int)) := by omega
    have u2 : decide ((65 : Int) ≤ (c.toNat : Int)) = true := decide_eq_true t2
    have t3 : ¬ ((c.toNat : Int) ≤ (70 : Int)) := by omega
    have u3 : decide ((c.toNat : Int) ≤ (70 : Int)) = false := decide_eq_false t3
    go_enter Tryd.func44, Tryd.ntmps44
    go_wp2_with fail
    go_ret2
    exact ⟨by rw [HN.out]; rfl, rfl⟩
def pctL (t : List UInt8) : List UInt8 := t.flatMap pctB
theorem unpA_app : ∀ (t r : List UInt8), unpA (pctL t ++ r) = (unpA r).map (t ++ ·)
  | [], r => by unfold pctL; rw [List.flatMap_nil, List.nil_append]; cases unpA r <;> simp
  | c :: t, r => by
    unfold pctL
    rw [List.flatMap_cons, List.append_assoc, unpA_pct, show t.flatMap pctB ++ r = pctL t ++ r from rfl, unpA_app t r]
    cases unpA r <;> simp
theorem unpctO_some {s : ByteArray} {t : List UInt8} (h : bs s = pctL t) : unpctO s = some (mk t) := by
  have e : s = pctS (mk t) := bs_inj (by rw [h]; rfl)
  rw [e, unpct_pct]
/-- Could a text by digits go on so? -/
def goesOn (r : List UInt8) : Prop := ∃ c u, r = pctB c ++ u
theorem unpctO_none {s : ByteArray} {t r : List UInt8} (h : bs s = pctL t ++ r) (h0 : r ≠ []) (hp : ¬ goesOn r) : unpctO s = none := by
  unfold unpctO
  cases hu : unpA (bs s) with
  | none => rfl
  | some t' =>
    by_cases he : pctS (mk t') = s
    · exfalso
      have e1 : pctL t' = pctL t ++ r := by rw [← h, ← he]; rfl
      have e2 := unpA_app t r
      rw [← e1, show pctL t' = t'.flatMap pctB from rfl, unpA_all] at e2
      cases hr : unpA r with
      | none => rw [hr] at e2; cases e2
      | some t2 =>
        rw [hr] at e2
        have e3 : t' = t ++ t2 := by injection e2
        have e4 : pctL t2 = r := by
          rw [e3] at e1
          unfold pctL at e1 ⊢
          rw [List.flatMap_append] at e1
          exact List.append_cancel_left e1
        cases t2 with
        | nil => exact h0 e4.symm
        | cons c u => exact hp ⟨c, pctL u, by rw [← e4]; unfold pctL; rw [List.flatMap_cons]⟩
    · exact if_neg he
/-- How far a text by digits has been read. -/
def PB (s : ByteArray) (t : List UInt8) (k : Nat) : Prop := bs s = pctL t ++ (bs s).drop k
theorem PB.start (s : ByteArray) : PB s [] 0 := rfl
theorem PB.done {s : ByteArray} {t : List UInt8} {k : Nat} (h : PB s t k) (hk : s.size ≤ k) : unpctO s = some (mk t) := by
  unfold PB at h
  rw [drop_end s k hk, List.append_nil] at h
  exact unpctO_some h
theorem pctL_snoc (t : List UInt8) (c : UInt8) : pctL (t ++ [c]) = pctL t ++ pctB c := by unfold pctL; simp
theorem PB.plain {s : ByteArray} {t : List UInt8} {k : Nat} (h : PB s t k) (hk : k < s.size) (hs : safeB s[k] = true) : PB s (t ++ [s[k]]) (k + 1) := by
  unfold PB at *
  rw [pctL_snoc, show pctB s[k] = [s[k]] by unfold pctB; rw [if_pos hs], List.append_assoc, List.singleton_append, ← drop_at s k hk]
  exact h
theorem PB.two {s : ByteArray} {t : List UInt8} {k a b : Nat} (h : PB s t k) (hk : k + 2 < s.size) (hc : s[k] = 37) (ha : valO s[k + 1] = some a) (hb : valO s[k + 2] = some b) (hs : safeB (UInt8.ofNat (16 * a + b)) = false) : PB s (t ++ [UInt8.ofNat (16 * a + b)]) (k + 3) := by
  obtain ⟨a1, a2⟩ := val_some ha
  obtain ⟨b1, b2⟩ := val_some hb
  have hn : (UInt8.ofNat (16 * a + b)).toNat = 16 * a + b := UInt8.toNat_ofNat_of_lt' (by show _ < 256; omega)
  unfold PB at *
  rw [pctL_snoc, show pctB (UInt8.ofNat (16 * a + b)) = [37, s[k + 1], s[k + 2]] by
    unfold pctB
    rw [if_neg (by rw [hs]; simp), hn, show (16 * a + b) / 16 = a by omega, show (16 * a + b) % 16 = b by omega, a2, b2], List.append_assoc]
  conv => lhs; rw [h, drop_at s k (by omega), drop_at s (k + 1) (by omega), drop_at s (k + 2) hk, hc]
  rfl
theorem drop_ne {s : ByteArray} {k : Nat} (hk : k < s.size) : (bs s).drop k ≠ [] := by rw [drop_at s k hk]; simp
theorem PB.bad {s : ByteArray} {t : List UInt8} {k : Nat} (h : PB s t k) (hk : k < s.size) (hs : safeB s[k] = false)
    (hb : s[k] = 37 → ∀ hk2 : k + 2 < s.size, ∀ a b, valO s[k + 1] = some a → valO s[k + 2] = some b → safeB (UInt8.ofNat (16 * a + b)) = true) : unpctO s = none := by
  refine unpctO_none h (drop_ne hk) ?_
  rintro ⟨c, u, e⟩
  unfold pctB at e
  by_cases hc : safeB c = true
  · rw [if_pos hc, drop_at s k hk] at e
    have e1 : s[k] = c := by injection e
    rw [e1, hc] at hs
    cases hs
  · rw [if_neg hc] at e
    have hz : (bs s).length - k = 3 + u.length := by
      have := congrArg List.length e
      rw [List.length_drop] at this
      simp at this
      omega
    have hk2 : k + 2 < s.size := by rw [size_bs]; omega
    rw [drop_at s k hk, drop_at s (k + 1) (by omega), drop_at s (k + 2) hk2] at e
    simp only [List.cons_append, List.nil_append, List.cons.injEq] at e
    obtain ⟨e1, e2, e3, -⟩ := e
    have hlt := UInt8.toNat_lt c
    have := hb e1 hk2 (c.toNat / 16) (c.toNat % 16) (by rw [e2]; exact val_hex_all ⟨_, by omega⟩) (by rw [e3]; exact val_hex_all ⟨_, by omega⟩)
    rw [show 16 * (c.toNat / 16) + c.toNat % 16 = c.toNat by omega, UInt8.ofNat_toNat] at this
    exact hc this
end Go.Proofs.YtmcjabmkacfilaaDoor
