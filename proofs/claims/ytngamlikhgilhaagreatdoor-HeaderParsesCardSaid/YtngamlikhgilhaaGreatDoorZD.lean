/- Regions that draw their order and hold calls that make memory: one walk of the text's order, in the class of the worlds that lie below. No program. -/
import Derived.Deep.QuietTactic
import Derived.BigQuiet
import Derived.Below
import Derived.Test.YtngamlikhgilhaaGreatDoorZA
namespace Go.Proofs.YtngamlikhgilhaaGreatDoor
open Go.RowKit

/-- A world that has kept all that there was. -/
structure BW (w : World) where
  W : World
  bel : Below w.heap.size w W
instance (w : World) : Nonempty (BW w) := ⟨⟨w, Below.refl _ _⟩⟩
theorem BW.cell {w : World} (x : BW w) (b o : Nat) (h : b < w.heap.size) : x.W.cell? ⟨b, o, none⟩ = w.cell? ⟨b, o, none⟩ := x.bel.cell (p := ⟨b, o, none⟩) h
theorem BW.frozen {w : World} (x : BW w) (b o : Nat) (h : b < w.heap.size) : x.W.frozen? ⟨b, o, none⟩ = w.frozen? ⟨b, o, none⟩ := x.bel.frozen (p := ⟨b, o, none⟩) h
theorem BW.call {w : World} {P : Program} {f : FuncId} {args : Array Value} {x : BW w} {v : Value}
    (h : Calls P f args x.W fun e w' => e = .returned v ∧ Below x.W.heap.size x.W w') : Calls P f args x.W fun e w' => e = .returned v ∧ ∃ y : BW w, w' = y.W :=
  h.mono fun _ _ ⟨he, hb⟩ => ⟨he, ⟨_, x.bel.trans (hb.mono x.bel.size)⟩, rfl⟩
theorem BW.same {w : World} {P : Program} {f : FuncId} {args : Array Value} {x : BW w} {v : Value}
    (h : Calls P f args x.W fun e w' => e = .returned v ∧ x.W = w') : Calls P f args x.W fun e w' => e = .returned v ∧ ∃ y : BW w, w' = y.W :=
  h.mono fun _ _ ⟨he, hw⟩ => ⟨he, x, hw.symm⟩
theorem BW.drawn {w : World} {P : Program} {f : FuncId} {args : Array Value} {x : BW w} {v : Value}
    (h : Calls P f args x.W fun e w' => e = .returned v ∧ ∃ n, w' = x.W.drewN n) : Calls P f args x.W fun e w' => e = .returned v ∧ ∃ y : BW w, w' = y.W :=
  h.mono fun _ _ ⟨he, n, hw⟩ => ⟨he, ⟨x.W.drewN n, ⟨x.bel.os, x.bel.tape, x.bel.output, x.bel.size, x.bel.block⟩⟩, hw⟩
theorem wp_region_class {P : Program} {id : Nat} {Q : Exit → Act → World → Prop} {a : Act} {w : World} {l : List Oper} (hm : P.follows .mixedOrders = true) (hB : Region.lexB .any l.toArray = true)
    (h : wpQuiet P l.toArray (fun w' => ∃ x : BW w, w' = x.W) (fun a' => ∀ w', (∃ x : BW w, w' = x.W) → Q .normal a' w') l a) : (Code.region id l.toArray true).wp P Q a w :=
  wp_region_quiet (C := fun w' => ∃ x : BW w, w' = x.W) hm hB ⟨⟨_, Below.drew (Below.refl _ _)⟩, rfl⟩ (by simpa using h)
end Go.Proofs.YtngamlikhgilhaaGreatDoor
/- Numbers in digits: plain laws. No program. -/
namespace Go.Proofs.YtngamlikhgilhaaGreatDoor

/-- Is a byte a digit? -/
def digB (c : Int) : Bool := decide (48 ≤ c) && decide (c ≤ 57)
theorem dig_iff {c : Int} : digB c = true ↔ 48 ≤ c ∧ c ≤ 57 := by simp [digB]
theorem dig_no {c : Int} : digB c = false ↔ c < 48 ∨ 57 < c := by
  rw [← Bool.not_eq_true, dig_iff]; omega
/-- What digits tell. -/
def decV (l : List UInt8) : Int := l.foldl (fun n c => 10 * n + ((c.toNat : Int) - 48)) 0
theorem decV_nil : decV [] = 0 := rfl
theorem decV_snoc (l : List UInt8) (c : UInt8) : decV (l ++ [c]) = 10 * decV l + ((c.toNat : Int) - 48) := by
  unfold decV
  rw [List.foldl_append]
  rfl
def allD (l : List UInt8) : Bool := l.all fun c => digB (c.toNat : Int)
theorem decV_acc (l : List UInt8) (n : Int) (h0 : 0 ≤ n) (h : allD l = true) : 0 ≤ l.foldl (fun n c => 10 * n + ((c.toNat : Int) - 48)) n ∧ l.foldl (fun n c => 10 * n + ((c.toNat : Int) - 48)) n < (n + 1) * 10 ^ l.length := by
  induction l generalizing n with
  | nil => simp only [List.foldl_nil, List.length_nil, Int.pow_zero, Int.mul_one]; omega
  | cons c l ih =>
    unfold allD at h ih
    rw [List.all_cons, Bool.and_eq_true] at h
    have h1 := dig_iff.1 h.1
    have h2 := ih (10 * n + ((c.toNat : Int) - 48)) (by omega) h.2
    rw [List.foldl_cons]
    refine ⟨h2.1, Int.lt_of_lt_of_le h2.2 ?_⟩
    rw [List.length_cons, Int.pow_succ, Int.mul_comm (10 ^ l.length) 10, ← Int.mul_assoc]
    exact Int.mul_le_mul_of_nonneg_right (by omega) (Int.pow_nonneg (by decide))
theorem decV_bd (l : List UInt8) (h : allD l = true) : 0 ≤ decV l ∧ decV l < 10 ^ l.length := by
  have := decV_acc l 0 (by decide) h
  rw [Int.zero_add, Int.one_mul] at this
  exact this
theorem ten18 (n : Nat) (h : n ≤ 18) : (10 : Int) ^ n ≤ 1000000000000000000 := by
  have h1 : (10 : Int) ^ 18 = 1000000000000000000 := by decide
  rw [← h1]
  exact_mod_cast Nat.pow_le_pow_right (by decide : 0 < 10) h
theorem decV_18 (l : List UInt8) (h : allD l = true) (hl : l.length ≤ 18) : 0 ≤ decV l ∧ decV l < 1000000000000000000 := by
  have := decV_bd l h
  have := ten18 _ hl
  omega
theorem decV_17 (l : List UInt8) (h : allD l = true) (hl : l.length ≤ 17) : 0 ≤ decV l ∧ decV l < 100000000000000000 := by
  have h0 := decV_bd l h
  have h1 : (10 : Int) ^ 17 = 100000000000000000 := by decide
  have h2 : (10 : Int) ^ l.length ≤ 10 ^ 17 := by exact_mod_cast Nat.pow_le_pow_right (by decide : 0 < 10) hl
  omega
/-- The number of a text of digits. -/
def unfO (s : ByteArray) : Option Int := if 1 ≤ s.size ∧ s.size ≤ 18 ∧ allD (bs s) = true then some (decV (bs s)) else none
theorem unf_size {s : ByteArray} (h : s.size < 1 ∨ 18 < s.size) : unfO s = none := if_neg (by omega)
theorem unf_no {s : ByteArray} (h : allD (bs s) = false) : unfO s = none := if_neg (by rw [h]; simp)
theorem unf_yes {s : ByteArray} (h1 : 1 ≤ s.size) (h2 : s.size ≤ 18) (h : allD (bs s) = true) : unfO s = some (decV (bs s)) := if_pos ⟨h1, h2, h⟩
theorem take_snoc (s : ByteArray) (k : Nat) (h : k < s.size) : (bs s).take (k + 1) = (bs s).take k ++ [s[k]] := by
  rw [List.take_succ_eq_append_getElem (by rw [← size_bs]; exact h)]
  rfl
theorem allD_snoc (s : ByteArray) (k : Nat) (h : k < s.size) : allD ((bs s).take (k + 1)) = (allD ((bs s).take k) && digB ((s[k]).toNat : Int)) := by
  rw [take_snoc s k h]
  unfold allD
  rw [List.all_append]
  simp
theorem allD_at (s : ByteArray) (k : Nat) (h : k < s.size) (hb : digB ((s[k]).toNat : Int) = false) : allD (bs s) = false := by
  unfold allD
  rw [List.all_eq_false]
  exact ⟨s[k], by exact List.getElem_mem (l := bs s) (by rw [← size_bs]; exact h), by rw [hb]; simp⟩

/-- So many digits of a number. -/
def fixL : Nat → Nat → List UInt8
  | 0, _ => []
  | w + 1, n => fixL w (n / 10) ++ [UInt8.ofNat (48 + n % 10)]
theorem fixL_len (w n : Nat) : (fixL w n).length = w := by
  induction w generalizing n with
  | zero => rfl
  | succ w ih => unfold fixL; rw [List.length_append, ih]; rfl
theorem dig_of (n : Nat) : (UInt8.ofNat (48 + n % 10)).toNat = 48 + n % 10 := by
  rw [UInt8.toNat_ofNat']
  omega
theorem fixL_dig (w n : Nat) : allD (fixL w n) = true := by
  induction w generalizing n with
  | zero => rfl
  | succ w ih =>
    unfold fixL allD
    rw [List.all_append, Bool.and_eq_true]
    refine ⟨ih _, ?_⟩
    simp only [List.all_cons, List.all_nil, Bool.and_true, dig_of]
    rw [dig_iff]
    omega
theorem fixL_val (w n : Nat) (h : n < 10 ^ w) : decV (fixL w n) = n := by
  induction w generalizing n with
  | zero => have : n = 0 := by simpa using h
            subst this; rfl
  | succ w ih =>
    unfold fixL
    rw [decV_snoc, ih (n / 10) (by rw [Nat.pow_succ] at h; omega), dig_of]
    omega
def fixS (w n : Nat) : ByteArray := mk (fixL w n)
theorem fixS_size (w n : Nat) : (fixS w n).size = w := by unfold fixS; rw [size_mk, fixL_len]
end Go.Proofs.YtngamlikhgilhaaGreatDoor
/- Contracts of package dec and of its reference: numbers of so many digits. -/
namespace Go.Proofs.YtngamlikhgilhaaGreatDoor
open Go.RowKit

def unfV (o : Option Int) : Value := .tuple #[.int .i64 (o.getD 0), .bool o.isSome]
theorem unfV_none {s : ByteArray} (h : unfO s = none) : unfV (unfO s) = .tuple #[.int .i64 0, .bool false] := by rw [h]; rfl
theorem unfV_some {s : ByteArray} {n : Int} (h : unfO s = some n) : unfV (unfO s) = .tuple #[.int .i64 n, .bool true] := by rw [h]; rfl
set_option maxRecDepth 100000 in
theorem digit_yes (c : Int) (w : World) (h1 : 48 ≤ c) (h2 : c ≤ 57) : Calls Tryz.prog 99 #[.int .i32 c] w fun e w' => e = .returned (.int .i64 (c - 48)) ∧ w = w' := by
  have k1 : ¬ c < 48 := by omega
  have k2 : ¬ 57 < c := by omega
  go_enter Tryz.func99, Tryz.ntmps99
  go_wp2_with fail
  go_ret
  exact ⟨rfl, rfl⟩
set_option maxRecDepth 100000 in
theorem digit_no (c : Int) (w : World) (h : c < 48 ∨ 57 < c) : Calls Tryz.prog 99 #[.int .i32 c] w fun e w' => e = .returned (.int .i64 (-1)) ∧ w = w' := by
  have h' : c < 48 ∨ (¬ c < 48 ∧ 57 < c) := by omega
  clear h
  rcases h' with h | ⟨h, h'⟩
  all_goals
    go_enter Tryz.func99, Tryz.ntmps99
    go_wp2_with fail
    go_ret
    exact ⟨rfl, rfl⟩
set_option maxHeartbeats 1000000 in
set_option maxRecDepth 100000 in
theorem unfixed_any (s : ByteArray) (w : World) (hs : s.size ≤ 9223372036854775807) : Calls Tryz.prog 59 #[.string s] w fun e w' => e = .returned (unfV (unfO s)) ∧ w = w' := by
  by_cases z : s.size < 1 ∨ 18 < s.size
  · have HV := Lib.hid (unfV_none (unf_size z))
    have z' : s.size < 1 ∨ (¬ s.size < 1 ∧ 18 < s.size) := by omega
    clear z
    rcases z' with z | ⟨z, z'⟩
    all_goals
      go_enter Tryz.func59, Tryz.ntmps59
      go_wp2_with fail
      go_step3
      go_wp2_with fail
      try rw [Exit.noGoto_ret]
      go_ret2
      exact ⟨by rw [HV.out]; rfl, rfl⟩
  · have z1 : 1 ≤ s.size := by omega
    have z2 : s.size ≤ 18 := by omega
    have HY := Lib.hid (fun h => unfV_some (@unf_yes s z1 z2 h))
    have HN := Lib.hid (fun h => unfV_none (@unf_no s h))
    have HL := Lib.hid (size_bs s)
    have HB := Lib.hid (fun k => decV_17 ((bs s).take k))
    clear z
    go_enter Tryz.func59, Tryz.ntmps59
    go_wp2_with fail
    go_step3
    go_wp2_with fail
    go_step3
    go_wp2_with fail
    go_loop [4, 17] (fun n i => ∃ k : Nat, k ≤ s.size ∧ i = .int .i64 k ∧ n = .int .i64 (decV ((bs s).take k)) ∧ Hid (allD ((bs s).take k) = true)) (fun _ i => s.size - (intOf i).toNat)
    case atStart => exact ⟨0, Nat.zero_le _, rfl, rfl, Lib.hid rfl⟩
    case round =>
      obtain ⟨k, hk, rfl, rfl, HA⟩ := hrel
      by_cases hlt : k < s.size
      · obtain ⟨v0, v1⟩ := HB.out k HA.out (by rw [List.length_take]; omega)
        have HS := Lib.hid (allD_snoc s k hlt)
        have HE := Lib.hid (show decV ((bs s).take (k + 1)) = 10 * decV ((bs s).take k) + (((s[k]'hlt).toNat : Int) - 48) by rw [take_snoc s k hlt, decV_snoc])
        have hc0 : 0 ≤ (((s[k]'hlt).toNat) : Int) := by omega
        have hc1 : (((s[k]'hlt).toNat) : Int) ≤ 255 := by have := (s[k]'hlt).toNat_lt; omega
        have HNO := Lib.hid (allD_at s k hlt)
        cases hd : digB ((s[k]'hlt).toNat : Int)
        · have hno := dig_no.1 hd
          have HV := Lib.hid (HN.out (HNO.out hd))
          clear hd
          go_wp2_with ((with_reducible refine (digit_no _ _ hno).mono ?_); rintro e w' ⟨rfl, rfl⟩)
          try rw [Exit.noGoto_ret]
          go_ret2
          exact ⟨by rw [HV.out]; rfl, rfl⟩
        · obtain ⟨d1, d2⟩ := dig_iff.1 hd
          have HD := Lib.hid hd
          have HA2 := Lib.hid (show allD ((bs s).take (k + 1)) = true by rw [HS.out, HA.out, HD.out]; rfl)
          clear hd
          generalize hcc : ((s[k]'hlt).toNat : Int) = c at *
          generalize hvv : decV ((bs s).take k) = v at *
          clear hvv
          have HC := Lib.hid hcc
          clear hcc
          have hx := HC.out
          go_wp2_with ((with_reducible refine (digit_yes _ _ d1 d2).mono ?_); rintro e w' ⟨rfl, rfl⟩)
          go_round
          case rel => exact ⟨k + 1, by omega, by go_num, by rw [HE.out], HA2⟩
          case measure => simp [intOf]; omega
      · obtain ⟨v0, v1⟩ := decV_18 ((bs s).take k) HA.out (by rw [List.length_take]; omega)
        have v2 : ¬ decV ((bs s).take k) < 0 := by omega
        have HV := Lib.hid (HY.out (by rw [← HA.out, List.take_of_length_le (by rw [← HL.out]; omega)]))
        have HT := Lib.hid (show (bs s).take k = bs s from List.take_of_length_le (by rw [← HL.out]; omega))
        go_wp2_with fail
        try rw [Exit.noGoto_ret]
        go_ret2
        exact ⟨by rw [HV.out, HT.out]; rfl, rfl⟩
set_option maxHeartbeats 1000000 in
set_option maxRecDepth 100000 in
theorem rvalue_any (s : ByteArray) (w : World) (hs : s.size ≤ 9223372036854775807) : Calls Tryz.prog 136 #[.string s, .int .i64 18] w fun e w' => e = .returned (.tuple #[.int .u64 ((unfO s).getD 0), .bool (unfO s).isSome]) ∧ w = w' := by
  by_cases z : s.size < 1 ∨ 18 < s.size
  · have HV := Lib.hid (unf_size z)
    have z' : s.size < 1 ∨ (¬ s.size < 1 ∧ 18 < s.size) := by omega
    clear z
    rcases z' with z | ⟨z, z'⟩
    all_goals
      go_enter Tryz.func136, Tryz.ntmps136
      go_wp2_with fail
      go_ret2
      exact ⟨by rw [HV.out]; rfl, rfl⟩
  · have z1 : 1 ≤ s.size := by omega
    have z2 : s.size ≤ 18 := by omega
    have z3 : ¬ s.size < 1 := by omega
    have z4 : ¬ 18 < s.size := by omega
    have HY := Lib.hid (fun h => @unf_yes s z1 z2 h)
    have HN := Lib.hid (fun h => @unf_no s h)
    have HL := Lib.hid (size_bs s)
    have HB := Lib.hid (fun k => decV_17 ((bs s).take k))
    clear z
    go_enter Tryz.func136, Tryz.ntmps136
    go_wp2_with fail
    go_loop [6, 7] (fun n i => ∃ k : Nat, k ≤ s.size ∧ i = .int .i64 k ∧ n = .int .u64 (decV ((bs s).take k)) ∧ Hid (allD ((bs s).take k) = true)) (fun _ i => s.size - (intOf i).toNat)
    case atStart => exact ⟨0, Nat.zero_le _, rfl, rfl, Lib.hid rfl⟩
    case round =>
      obtain ⟨k, hk, rfl, rfl, HA⟩ := hrel
      by_cases hlt : k < s.size
      · obtain ⟨v0, v1⟩ := HB.out k HA.out (by rw [List.length_take]; omega)
        have HS := Lib.hid (allD_snoc s k hlt)
        have HE := Lib.hid (show decV ((bs s).take (k + 1)) = 10 * decV ((bs s).take k) + (((s[k]'hlt).toNat : Int) - 48) by rw [take_snoc s k hlt, decV_snoc])
        have hc0 : 0 ≤ (((s[k]'hlt).toNat) : Int) := by omega
        have hc1 : (((s[k]'hlt).toNat) : Int) ≤ 255 := by have := (s[k]'hlt).toNat_lt; omega
        have HNO := Lib.hid (allD_at s k hlt)
        cases hd : digB ((s[k]'hlt).toNat : Int)
        · have hno : ((s[k]'hlt).toNat : Int) < 48 ∨ (¬ ((s[k]'hlt).toNat : Int) < 48 ∧ 57 < ((s[k]'hlt).toNat : Int)) := by have := dig_no.1 hd; omega
          have HV := Lib.hid (HN.out (HNO.out hd))
          clear hd
          rcases hno with hno | ⟨hno, hno'⟩
          all_goals
            go_wp2_with fail
            go_ret2
            exact ⟨by rw [HV.out]; rfl, rfl⟩
        · obtain ⟨d1, d2⟩ := dig_iff.1 hd
          have d3 : ¬ ((s[k]'hlt).toNat : Int) < 48 := by omega
          have d4 : ¬ 57 < ((s[k]'hlt).toNat : Int) := by omega
          have HD := Lib.hid hd
          have HA2 := Lib.hid (show allD ((bs s).take (k + 1)) = true by rw [HS.out, HA.out, HD.out]; rfl)
          clear hd
          generalize hcc : ((s[k]'hlt).toNat : Int) = c at *
          generalize hvv : decV ((bs s).take k) = v at *
          clear hvv
          have HC := Lib.hid hcc
          clear hcc
          have hx := HC.out
          have u1 : IntKind.u64.wrap (10 * v) = 10 * v := by rw [IntKind.wrap_u64]; omega
          have u2 : IntKind.u64.wrap (10 * v + c) = 10 * v + c := by rw [IntKind.wrap_u64]; omega
          have u3 : IntKind.u64.wrap (10 * v + c - 48) = 10 * v + c - 48 := by rw [IntKind.wrap_u64]; omega
          have u4 : 10 * v + c - 48 = 10 * v + (c - 48) := by omega
          have U4 := Lib.hid u4
          clear u4
          go_wp2_with fail
          go_round
          case rel => exact ⟨k + 1, by omega, by go_num, by first | (rw [HE.out, U4.out]; done) | (rw [HE.out]; done), HA2⟩
          case measure => simp [intOf]; omega
      · have HV := Lib.hid (HY.out (by rw [← HA.out, List.take_of_length_le (by rw [← HL.out]; omega)]))
        have HT := Lib.hid (show (bs s).take k = bs s from List.take_of_length_le (by rw [← HL.out]; omega))
        go_wp2_with fail
        go_ret2
        exact ⟨by rw [HV.out, HT.out]; rfl, rfl⟩
theorem unfO_bd (s : ByteArray) : 0 ≤ (unfO s).getD 0 ∧ (unfO s).getD 0 < 1000000000000000000 := by
  unfold unfO
  split
  · rename_i h
    exact decV_18 _ h.2.2 (by rw [← size_bs]; exact h.2.1)
  · exact ⟨by decide, by decide⟩
set_option maxRecDepth 100000 in
theorem runfixed_any (s : ByteArray) (w : World) (hs : s.size ≤ 9223372036854775807) : Calls Tryz.prog 121 #[.string s] w fun e w' => e = .returned (unfV (unfO s)) ∧ w = w' := by
  obtain ⟨h1, h2⟩ := unfO_bd s
  go_enter Tryz.func121, Tryz.ntmps121
  go_wp2_with fail
  refine (rvalue_any s _ hs).mono ?_
  rintro e w1 ⟨rfl, rfl⟩
  have k1 : IntKind.i64.wrap ((unfO s).getD 0) = (unfO s).getD 0 := by rw [IntKind.wrap_i64]; omega
  have HV := Lib.hid (show unfV (unfO s) = .tuple #[.int .i64 ((unfO s).getD 0), .bool (unfO s).isSome] from rfl)
  generalize (unfO s).getD 0 = n at *
  generalize (unfO s).isSome = b at *
  go_wp2_with fail
  go_ret2
  exact ⟨by rw [HV.out]; rfl, rfl⟩
end Go.Proofs.YtngamlikhgilhaaGreatDoor
/- Numbers printed in digits, with and without zeros ahead: plain laws. No program. -/
namespace Go.Proofs.YtngamlikhgilhaaGreatDoor

/-- A number's digits. -/
def digL (n : Nat) : List UInt8 := if h : n < 10 then [UInt8.ofNat (48 + n)] else digL (n / 10) ++ [UInt8.ofNat (48 + n % 10)]
termination_by n
theorem digL_lt {n : Nat} (h : n < 10) : digL n = [UInt8.ofNat (48 + n)] := by rw [digL]; exact dif_pos h
theorem digL_ge {n : Nat} (h : 10 ≤ n) : digL n = digL (n / 10) ++ [UInt8.ofNat (48 + n % 10)] := by rw [digL]; exact dif_neg (by omega)
theorem digL_pos (n : Nat) : 0 < (digL n).length := by
  by_cases h : n < 10
  · rw [digL_lt h]; exact Nat.zero_lt_one
  · rw [digL_ge (by omega), List.length_append]; exact Nat.lt_of_lt_of_le Nat.zero_lt_one (Nat.le_add_left _ _)
theorem digL_len (w n : Nat) (hw : 0 < w) (h : n < 10 ^ w) : (digL n).length ≤ w := by
  induction w generalizing n with
  | zero => omega
  | succ w ih =>
    by_cases h1 : n < 10
    · rw [digL_lt h1]; simp
    · rw [digL_ge (by omega), List.length_append]
      have : 0 < w := by
        cases w with
        | zero => simp at h; omega
        | succ w => omega
      have := ih (n / 10) this (by rw [Nat.pow_succ] at h; omega)
      simp
      omega
theorem fixL_zero (w : Nat) : fixL w 0 = List.replicate w 48 := by
  induction w with
  | zero => rfl
  | succ w ih =>
    unfold fixL
    rw [show 0 / 10 = 0 from rfl, ih, List.replicate_succ']
    rfl
theorem fixL_pad (w n : Nat) (h : (digL n).length ≤ w) : fixL w n = List.replicate (w - (digL n).length) 48 ++ digL n := by
  induction w generalizing n with
  | zero => have := digL_pos n; omega
  | succ w ih =>
    unfold fixL
    by_cases h1 : n < 10
    · rw [digL_lt h1, show n / 10 = 0 by omega, fixL_zero, show n % 10 = n by omega]
      simp
    · have h2 := digL_ge (n := n) (by omega)
      have h3 : (digL n).length = (digL (n / 10)).length + 1 := by rw [h2, List.length_append]; rfl
      rw [ih (n / 10) (by omega), h2, ← List.append_assoc]
      congr 2
      rw [← h2, h3]
      simp
/-- A number as a text. -/
def prtS (n : Nat) : ByteArray := mk (digL n)
theorem prt_size (n : Nat) : (prtS n).size = (digL n).length := size_mk _
/-- Zeros ahead of a text. -/
def padS (k : Nat) (s : ByteArray) : ByteArray := mk (List.replicate k 48 ++ bs s)
theorem padS_zero (s : ByteArray) : padS 0 s = s := rfl
theorem padS_succ (k : Nat) (s : ByteArray) : (⟨#[48]⟩ : ByteArray) ++ padS k s = padS (k + 1) s := by
  apply bs_inj
  rw [bs_append]
  rfl
theorem padS_size (k : Nat) (s : ByteArray) : (padS k s).size = k + s.size := by
  unfold padS
  rw [size_mk, List.length_append, List.length_replicate, size_bs]
theorem fixS_pad (w n : Nat) (h : (digL n).length ≤ w) : fixS w n = padS (w - (digL n).length) (prtS n) := by
  unfold fixS padS prtS
  rw [fixL_pad w n h, bs_mk]
end Go.Proofs.YtngamlikhgilhaaGreatDoor
/- Contracts: the reference's digits of a number. -/
namespace Go.Proofs.YtngamlikhgilhaaGreatDoor
open Go.RowKit

theorem conv_one (W : World) (N : Nat) (c : Nat) (hc : c < 256) (h : W.cell? ⟨N, 0, none⟩ = some (.int .u8 (c : Int))) : (convert 57 9 (.slice (some ⟨N, 0, none⟩) 1 1)).run Tryz.prog W = .ok (.string (mk [UInt8.ofNat c])) W := by
  refine run_convert_bytes_back W 57 9 5 ⟨N, 0, none⟩ 1 [UInt8.ofNat c] Tryz.underlying57 Tryz.underlying5 Tryz.underlying9 (fun j hj => ?_)
  have : j = 0 := by simp at hj; omega
  subst this
  rw [Go.WideShapes.add_plain, Nat.zero_add, h]
  simp only [List.getElem_cons_zero]
  rw [UInt8.toNat_ofNat', Nat.mod_eq_of_lt hc]
theorem conv_dig (wr : World) (m : Nat) (D : Int) (hD : D = 48 + (m : Int)) (hm : m < 10) : (convert 57 9 (.slice (some ⟨wr.heap.size, 0, none⟩) 1 1)).run Tryz.prog (wr.alloc (.cells #[.int .u8 D] 5)) =
    .ok (.string (mk [UInt8.ofNat (48 + m)])) (wr.alloc (.cells #[.int .u8 D] 5)) := by
  subst hD
  have e : (48 + (m : Int)) = ((48 + m : Nat) : Int) := by omega
  rw [e]
  exact conv_one _ _ _ (by omega) (by rw [World.cell?_alloc_new]; rfl)
set_option maxHeartbeats 1000000 in
set_option maxRecDepth 100000 in
theorem rdigits_any (n : Nat) (hn : n < 1000000000000000000) (w : World) : Calls Tryz.prog 129 #[.int .u64 n] w fun e w' => e = .returned (.string (prtS n)) ∧ Below w.heap.size w w' := by
  go_enter Tryz.func129, Tryz.ntmps129
  go_wp2_with fail
  go_loopw [0, 3] (fun t o wr => ∃ (m : Nat) (s : ByteArray), m ≤ n ∧ t = .int .u64 m ∧ o = .string s ∧ Hid (digL n = digL m ++ bs s) ∧ s.size ≤ n - m ∧ Below w.heap.size w wr) (fun t _ _ => (intOf t).toNat)
  case atStart => exact ⟨n, ⟨#[]⟩, Nat.le_refl _, rfl, rfl, Lib.hid (by simp [bs]), by show 0 ≤ _; omega, Below.refl _ _⟩
  case round =>
    obtain ⟨m, s, hm, rfl, rfl, HE, hz, hb⟩ := hrel
    by_cases h : 10 ≤ m
    · have hcv := conv_dig wr (m % 10) (48 + (m : Int) % 10) (by omega) (by omega)
      have HX := Lib.hid (show digL n = digL (m / 10) ++ bs (mk [UInt8.ofNat (48 + m % 10)] ++ s) by rw [HE.out, digL_ge h, bs_append, List.append_assoc]; rfl)
      have h1 : (mk [UInt8.ofNat (48 + m % 10)]).size = 1 := rfl
      have hz2 : (mk [UInt8.ofNat (48 + m % 10)] ++ s).size ≤ n - m / 10 := by rw [ByteArray.size_append, h1]; omega
      have HZ := Lib.hid hz2
      generalize mk [UInt8.ofNat (48 + m % 10)] = X at hcv HX h1 HZ
      have k1 : ¬ (9223372036854775807 < X.size + s.size) := by rw [h1]; omega
      clear h1 hz2
      have hd : (m : Int) / 10 = ((m / 10 : Nat) : Int) := by omega
      have HD := Lib.hid hd
      clear hd
      go_wp2_with fail
      go_roundw
      case rel => exact ⟨m / 10, X ++ s, by omega, by first | rfl | rw [HD.out], rfl, HX, HZ.out, hb.alloc hb.size _⟩
      case measure => simp [intOf]; omega
    · have hcv := conv_dig wr m (48 + (m : Int)) rfl (by omega)
      have HX := Lib.hid (show mk [UInt8.ofNat (48 + m)] ++ s = prtS n by
        apply bs_inj
        unfold prtS
        rw [bs_mk, HE.out, digL_lt (by omega), bs_append]
        rfl)
      have h1 : (mk [UInt8.ofNat (48 + m)]).size = 1 := rfl
      generalize mk [UInt8.ofNat (48 + m)] = X at hcv HX h1
      have k1 : ¬ (9223372036854775807 < X.size + s.size) := by rw [h1]; omega
      clear h1
      go_wp2_with fail
      go_ret
      exact ⟨by rw [HX.out]; rfl, hb.alloc hb.size _⟩
set_option maxRecDepth 100000 in
theorem rprint_pos (n : Nat) (hn : n < 1000000000000000000) (w : World) : Calls Tryz.prog 109 #[.int .i64 n] w fun e w' => e = .returned (.string (prtS n)) ∧ Below w.heap.size w w' := by
  have k0 : ¬ ((n : Int) < 0) := by omega
  have k1 : IntKind.u64.wrap (n : Int) = n := by rw [IntKind.wrap_u64]; omega
  go_enter Tryz.func109, Tryz.ntmps109
  go_wp2_with fail
  refine (rdigits_any n hn _).mono ?_
  rintro e w1 ⟨rfl, hb⟩
  go_wp2_with fail
  go_ret
  exact ⟨rfl, hb⟩
set_option maxHeartbeats 1000000 in
set_option maxRecDepth 100000 in
theorem rfixed_any (n wd : Nat) (h0 : 1 ≤ wd) (h1 : wd ≤ 18) (hn : n < 10 ^ wd) (w : World) : Calls Tryz.prog 75 #[.int .i64 n, .int .i64 wd] w fun e w' => e = .returned (.string (fixS wd n)) ∧ Below w.heap.size w w' := by
  have hn2 : n < 1000000000000000000 := by
    have h2 : (10 : Nat) ^ 18 = 1000000000000000000 := by decide
    have h3 := Nat.pow_le_pow_right (by decide : 0 < 10) h1
    omega
  have hl := digL_len wd n h0 hn
  have HF := Lib.hid (fixS_pad wd n hl)
  have HS := Lib.hid (prt_size n)
  have HPD := Lib.hid padS_succ
  have HPZ := Lib.hid padS_size
  have HP0 := Lib.hid (padS_zero (prtS n))
  have hz : (prtS n).size ≤ wd := by rw [prt_size]; exact hl
  have k1 : ¬ ((wd : Int) < 1) := by omega
  have k2 : ¬ (18 < (wd : Int)) := by omega
  have k3 : ¬ ((n : Int) < 0) := by omega
  have k4 : ¬ (wd < (prtS n).size) := by omega
  clear hn hl
  go_enter Tryz.func75, Tryz.ntmps75
  go_wp2_with fail
  refine (rprint_pos n hn2 _).mono ?_
  rintro e w1 ⟨rfl, hb⟩
  go_wp2_with fail
  go_loop [5] (fun o => ∃ k : Nat, k + (prtS n).size ≤ wd ∧ o = .string (padS k (prtS n))) (fun o => wd - (match o with | .string s => s.size | _ => 0))
  case atStart => exact ⟨0, by omega, by rw [HP0.out]⟩
  case round =>
    obtain ⟨k, hk, rfl⟩ := hrel
    have hzz := HPZ.out k (prtS n)
    have HZ := Lib.hid hzz
    have HX := Lib.hid (HPD.out k (prtS n))
    have HZ1 := Lib.hid (HPZ.out (k + 1) (prtS n))
    have HFk := Lib.hid (show k + (prtS n).size = wd → padS k (prtS n) = fixS wd n from fun h => by rw [HF.out, ← HS.out]; congr 1; omega)
    generalize padS k (prtS n) = X at *
    clear hzz
    by_cases h : k + (prtS n).size < wd
    · have k5 : X.size < wd := by rw [HZ.out]; exact h
      have k6 : ¬ (9223372036854775807 < 1 + X.size) := by omega
      go_wp2_with fail
      go_round
      case rel => exact ⟨k + 1, by omega, by rw [HX.out]⟩
      case measure =>
        show wd - (({ data := #[48] } : ByteArray) ++ X).size < wd - X.size
        rw [ByteArray.size_append, show ({ data := #[48] } : ByteArray).size = 1 from rfl]
        omega
    · have k5 : ¬ X.size < wd := by rw [HZ.out]; exact h
      have HV := Lib.hid (HFk.out (by omega))
      go_wp2_with fail
      go_ret
      exact ⟨by rw [HV.out]; rfl, hb⟩
end Go.Proofs.YtngamlikhgilhaaGreatDoor
/- Contracts of dec.Fixed: numbers in two and in four digits. -/
namespace Go.Proofs.YtngamlikhgilhaaGreatDoor
open Go.RowKit

theorem fixL_cons (r n : Nat) : fixL (r + 1) n = UInt8.ofNat (48 + n / 10 ^ r % 10) :: fixL r n := by
  induction r generalizing n with
  | zero => simp [fixL]
  | succ r ih =>
    rw [show fixL (r + 1 + 1) n = fixL (r + 1) (n / 10) ++ [UInt8.ofNat (48 + n % 10)] from rfl, ih (n / 10), show fixL (r + 1) n = fixL r (n / 10) ++ [UInt8.ofNat (48 + n % 10)] from rfl,
      Nat.div_div_eq_div_mul, Nat.pow_succ, Nat.mul_comm 10]
    rfl
theorem rep_set (j : Nat) (l : List UInt8) (d : UInt8) : (List.replicate (j + 1) 0 ++ l).set j d = List.replicate j 0 ++ d :: l := by
  rw [List.replicate_succ', List.append_assoc, List.set_append_right _ _ (by simp)]
  simp
theorem mk_2 (w : World) : (Instr.makeSlice 57 (.int .i64 2) (.int .i64 2)).run Tryz.prog w = .ok (.slice (some ⟨w.heap.size, 0, none⟩) 2 2) (w.alloc (.cells #[.int .u8 0, .int .u8 0] 5)) := by kernel_rfl
theorem row_2 (w : World) : LRow (w.alloc (.cells #[.int .u8 0, .int .u8 0] 5)) w.heap.size (List.replicate 2 0) := by
  intro j hj
  rw [List.length_replicate] at hj
  rw [List.getElem_replicate]
  have h : j = 0 ∨ j = 1 := by omega
  rcases h with rfl | rfl <;> exact ⟨by rw [World.cell?_alloc_new]; rfl, by go_simp⟩
set_option maxHeartbeats 1000000 in
set_option maxRecDepth 100000 in
theorem fixed_2 (n : Nat) (hn : n < 10 ^ 2) (w : World) : Calls Tryz.prog 70 #[.int .i64 n, .int .i64 2] w fun e w' => e = .returned (.string (fixS 2 n)) ∧ Below w.heap.size w w' := by
  have hmk := mk_2 w
  have HR0 := Lib.hid (row_2 w)
  have hnn : n < 100 := hn
  have k3 : ¬ ((n : Int) < 0) := by omega
  have hbk : ∀ (wr : World) (l : List UInt8), l.length = 2 → LRow wr w.heap.size l → (convert 57 9 (.slice (some ⟨w.heap.size, 0, none⟩) 2 2)).run Tryz.prog wr = .ok (.string (mk l)) wr := fun wr l hl h => conv_back wr w.heap.size 2 2 l hl h
  have HB := Lib.hid hbk
  clear hbk
  go_enter Tryz.func70, Tryz.ntmps70
  go_wp2_with fail
  go_loopw [0, 6] (fun t i wr => ∃ m : Nat, t = .int .i64 m ∧ m < 100 ∧ Below w.heap.size w wr ∧
    ((∃ j : Nat, j < 2 ∧ i = .int .i64 j ∧ Hid (m = n / 10 ^ (2 - 1 - j)) ∧ Hid (LRow wr w.heap.size (List.replicate (j + 1) 0 ++ fixL (2 - 1 - j) n))) ∨
    (i = .int .i64 (-1) ∧ Hid (m = n / 10 ^ 2) ∧ Hid (LRow wr w.heap.size (fixL 2 n))))) (fun _ i _ => (intOf i + 1).toNat)
  case atStart => exact ⟨n, rfl, hnn, (Below.refl _ _).alloc (Nat.le_refl _) _, .inl ⟨1, by decide, rfl, Lib.hid (by simp), Lib.hid (by have := HR0.out; simpa [fixL] using this)⟩⟩
  case round =>
    clear hmk HR0
    obtain ⟨m, rfl, hm, hb, (⟨j, hj, rfl, HM, HA⟩ | ⟨rfl, HM, HA⟩)⟩ := hrel
    · have hl2 : j < (List.replicate (j + 1) (0 : UInt8) ++ fixL (2 - 1 - j) n).length := by rw [List.length_append, List.length_replicate]; omega
      obtain ⟨hx, hf⟩ := HA.out j hl2
      have hx2 : (List.replicate (j + 1) (0 : UInt8) ++ fixL (2 - 1 - j) n)[j]'hl2 = 0 := by
        rw [List.getElem_append_left (by simp), List.getElem_replicate]
      rw [hx2] at hx
      have hj2 : (j : Int) < 2 := by omega
      have HS := Lib.hid (HA.out.set j hl2 (UInt8.ofNat (48 + m % 10)))
      have HE := Lib.hid (show (List.replicate (j + 1) (0 : UInt8) ++ fixL (2 - 1 - j) n).set j (UInt8.ofNat (48 + m % 10)) = List.replicate j 0 ++ fixL (2 - 1 - j + 1) n by
        rw [rep_set, fixL_cons, ← HM.out])
      have HD := Lib.hid (show (((UInt8.ofNat (48 + m % 10)).toNat : Nat) : Int) = 48 + (m : Int) % 10 by rw [dig_of]; omega)
      have HN := Lib.hid (show m / 10 = n / 10 ^ (2 - 1 - j + 1) by rw [HM.out, Nat.div_div_eq_div_mul, Nat.pow_succ])
      have HC := Lib.hid (show (m : Int) / 10 = ((m / 10 : Nat) : Int) by omega)
      clear hl2 hx2
      go_wp2_with fail
      go_roundw
      case rel =>
        refine ⟨m / 10, by rw [HC.out], by omega, hb.setCell (Nat.le_refl _) _, ?_⟩
        have h9 := HS.out
        rw [HD.out, HE.out] at h9
        by_cases hj0 : j = 0
        · subst hj0
          exact .inr ⟨rfl, Lib.hid HN.out, Lib.hid h9⟩
        · obtain ⟨i, rfl⟩ : ∃ i, j = i + 1 := ⟨j - 1, by omega⟩
          refine .inl ⟨i, by omega, by congr 1 <;> omega, Lib.hid ?_, Lib.hid ?_⟩
          · rw [HN.out, show 2 - 1 - (i + 1) + 1 = 2 - 1 - i by omega]
          · rw [show 2 - 1 - i = 2 - 1 - (i + 1) + 1 by omega]; exact h9
      case measure => simp [intOf]
    · have hm0 : m = 0 := by rw [HM.out]; exact Nat.div_eq_of_lt hn
      subst hm0
      have hbk := HB.out wr (fixL 2 n) (fixL_len _ _) HA.out
      have HF := Lib.hid (show mk (fixL 2 n) = fixS 2 n from rfl)
      rw [HF.out] at hbk
      go_wp2_with fail
      go_ret
      exact ⟨rfl, hb⟩
theorem mk_4 (w : World) : (Instr.makeSlice 57 (.int .i64 4) (.int .i64 4)).run Tryz.prog w = .ok (.slice (some ⟨w.heap.size, 0, none⟩) 4 4) (w.alloc (.cells #[.int .u8 0, .int .u8 0, .int .u8 0, .int .u8 0] 5)) := by kernel_rfl
theorem row_4 (w : World) : LRow (w.alloc (.cells #[.int .u8 0, .int .u8 0, .int .u8 0, .int .u8 0] 5)) w.heap.size (List.replicate 4 0) := by
  intro j hj
  rw [List.length_replicate] at hj
  rw [List.getElem_replicate]
  have h : j = 0 ∨ j = 1 ∨ j = 2 ∨ j = 3 := by omega
  rcases h with rfl | rfl | rfl | rfl <;> exact ⟨by rw [World.cell?_alloc_new]; rfl, by go_simp⟩
set_option maxHeartbeats 1000000 in
set_option maxRecDepth 100000 in
theorem fixed_4 (n : Nat) (hn : n < 10 ^ 4) (w : World) : Calls Tryz.prog 70 #[.int .i64 n, .int .i64 4] w fun e w' => e = .returned (.string (fixS 4 n)) ∧ Below w.heap.size w w' := by
  have hmk := mk_4 w
  have HR0 := Lib.hid (row_4 w)
  have hnn : n < 10000 := hn
  have k3 : ¬ ((n : Int) < 0) := by omega
  have hbk : ∀ (wr : World) (l : List UInt8), l.length = 4 → LRow wr w.heap.size l → (convert 57 9 (.slice (some ⟨w.heap.size, 0, none⟩) 4 4)).run Tryz.prog wr = .ok (.string (mk l)) wr := fun wr l hl h => conv_back wr w.heap.size 4 4 l hl h
  have HB := Lib.hid hbk
  clear hbk
  go_enter Tryz.func70, Tryz.ntmps70
  go_wp2_with fail
  go_loopw [0, 6] (fun t i wr => ∃ m : Nat, t = .int .i64 m ∧ m < 10000 ∧ Below w.heap.size w wr ∧
    ((∃ j : Nat, j < 4 ∧ i = .int .i64 j ∧ Hid (m = n / 10 ^ (4 - 1 - j)) ∧ Hid (LRow wr w.heap.size (List.replicate (j + 1) 0 ++ fixL (4 - 1 - j) n))) ∨
    (i = .int .i64 (-1) ∧ Hid (m = n / 10 ^ 4) ∧ Hid (LRow wr w.heap.size (fixL 4 n))))) (fun _ i _ => (intOf i + 1).toNat)
  case atStart => exact ⟨n, rfl, hnn, (Below.refl _ _).alloc (Nat.le_refl _) _, .inl ⟨3, by decide, rfl, Lib.hid (by simp), Lib.hid (by have := HR0.out; simpa [fixL] using this)⟩⟩
  case round =>
    clear hmk HR0
    obtain ⟨m, rfl, hm, hb, (⟨j, hj, rfl, HM, HA⟩ | ⟨rfl, HM, HA⟩)⟩ := hrel
    · have hl2 : j < (List.replicate (j + 1) (0 : UInt8) ++ fixL (4 - 1 - j) n).length := by rw [List.length_append, List.length_replicate]; omega
      obtain ⟨hx, hf⟩ := HA.out j hl2
      have hx2 : (List.replicate (j + 1) (0 : UInt8) ++ fixL (4 - 1 - j) n)[j]'hl2 = 0 := by
        rw [List.getElem_append_left (by simp), List.getElem_replicate]
      rw [hx2] at hx
      have hj2 : (j : Int) < 4 := by omega
      have HS := Lib.hid (HA.out.set j hl2 (UInt8.ofNat (48 + m % 10)))
      have HE := Lib.hid (show (List.replicate (j + 1) (0 : UInt8) ++ fixL (4 - 1 - j) n).set j (UInt8.ofNat (48 + m % 10)) = List.replicate j 0 ++ fixL (4 - 1 - j + 1) n by
        rw [rep_set, fixL_cons, ← HM.out])
      have HD := Lib.hid (show (((UInt8.ofNat (48 + m % 10)).toNat : Nat) : Int) = 48 + (m : Int) % 10 by rw [dig_of]; omega)
      have HN := Lib.hid (show m / 10 = n / 10 ^ (4 - 1 - j + 1) by rw [HM.out, Nat.div_div_eq_div_mul, Nat.pow_succ])
      have HC := Lib.hid (show (m : Int) / 10 = ((m / 10 : Nat) : Int) by omega)
      clear hl2 hx2
      go_wp2_with fail
      go_roundw
      case rel =>
        refine ⟨m / 10, by rw [HC.out], by omega, hb.setCell (Nat.le_refl _) _, ?_⟩
        have h9 := HS.out
        rw [HD.out, HE.out] at h9
        by_cases hj0 : j = 0
        · subst hj0
          exact .inr ⟨rfl, Lib.hid HN.out, Lib.hid h9⟩
        · obtain ⟨i, rfl⟩ : ∃ i, j = i + 1 := ⟨j - 1, by omega⟩
          refine .inl ⟨i, by omega, by congr 1 <;> omega, Lib.hid ?_, Lib.hid ?_⟩
          · rw [HN.out, show 4 - 1 - (i + 1) + 1 = 4 - 1 - i by omega]
          · rw [show 4 - 1 - i = 4 - 1 - (i + 1) + 1 by omega]; exact h9
      case measure => simp [intOf]
    · have hm0 : m = 0 := by rw [HM.out]; exact Nat.div_eq_of_lt hn
      subst hm0
      have hbk := HB.out wr (fixL 4 n) (fixL_len _ _) HA.out
      have HF := Lib.hid (show mk (fixL 4 n) = fixS 4 n from rfl)
      rw [HF.out] at hbk
      go_wp2_with fail
      go_ret
      exact ⟨rfl, hb⟩
end Go.Proofs.YtngamlikhgilhaaGreatDoor
