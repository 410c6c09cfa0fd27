/- Texts as lists of bytes: plain facts; no program is named here. -/
import Derived.Test.YtngamlikhgilhaaGreatDoorProg
import Derived.WalkKit
import Derived.Below
import Derived.Lib.Hide
import Derived.LoopTactic
import Derived.WalkSpells
import Derived.Outline
import Derived.KernelRfl
import Derived.Deep.QuietTactic
import Derived.BigQuiet
import Derived.Laws.Strings
import Derived.Lib.ConvBytes
import Derived.Laws.IdiomStrings
namespace Go.Proofs.YtngamlikhgilhaaGreatDoor

/-- A text's bytes, and the text of some bytes. -/
def bs (s : ByteArray) : List UInt8 := s.data.toList
def mk (l : List UInt8) : ByteArray := ⟨l.toArray⟩
theorem bs_mk (l : List UInt8) : bs (mk l) = l := rfl
theorem mk_bs (s : ByteArray) : mk (bs s) = s := rfl
theorem bs_inj {a b : ByteArray} (h : bs a = bs b) : a = b := by rw [← mk_bs a, ← mk_bs b, h]
theorem size_bs (s : ByteArray) : s.size = (bs s).length := by
  unfold bs
  rw [Array.length_toList]
  rfl
theorem size_mk (l : List UInt8) : (mk l).size = l.length := by rw [size_bs, bs_mk]
theorem bs_append (a b : ByteArray) : bs (a ++ b) = bs a ++ bs b := by
  simp [bs, ByteArray.data_append]
theorem bs_extract (s : ByteArray) (a b : Nat) : bs (s.extract a b) = ((bs s).take b).drop a := by
  simp [bs, ByteArray.data_extract, List.drop_take]
/-- The byte at a place. -/
def at_ (s : ByteArray) (k : Nat) : Int := (((bs s).getD k 0).toNat : Int)
theorem at_bd (s : ByteArray) (k : Nat) : 0 ≤ at_ s k ∧ at_ s k < 256 := by
  have := ((bs s).getD k 0).toNat_lt
  unfold at_
  omega
theorem at_get (s : ByteArray) (k : Nat) (h : k < s.size) : ((s[k]).toNat : Int) = at_ s k := by
  unfold at_ bs
  have h' : k < s.data.toList.length := by rw [Array.length_toList]; exact h
  rw [List.getD_eq_getElem?_getD, List.getElem?_eq_getElem h', Option.getD_some]
  rfl
end Go.Proofs.YtngamlikhgilhaaGreatDoor
/- Contracts of package ascii and of its reference: the classes of bytes. -/
namespace Go.Proofs.YtngamlikhgilhaaGreatDoor
open Go.RowKit

theorem ret_bool {a b : Bool} (h : a = b) : Ending.returned (.bool a) = .returned (.bool b) := by rw [h]
/-- From one byte to another one. -/
def wi (c a b : Int) : Bool := decide (a ≤ c) && decide (c ≤ b)
theorem wi_iff {c a b : Int} : wi c a b = true ↔ a ≤ c ∧ c ≤ b := by simp [wi]
theorem within_any (c a b : Int) (w : World) : Calls Tryz.prog 46 #[.int .u8 c, .int .u8 a, .int .u8 b] w fun e w' => e = .returned (.bool (wi c a b)) ∧ w = w' := by
  by_cases h : a ≤ c
  · have hw : wi c a b = decide (c ≤ b) := by simp [wi, h]
    have HW := Lib.hid hw
    clear hw
    go_enter Tryz.func46, Tryz.ntmps46
    go_wp2
    go_ret
    exact ⟨ret_bool HW.out.symm, rfl⟩
  · have hw : wi c a b = false := by simp only [wi, h]; simp
    have HW := Lib.hid hw
    clear hw
    go_enter Tryz.func46, Tryz.ntmps46
    go_wp2
    go_ret
    exact ⟨ret_bool HW.out.symm, rfl⟩

/-- The bytes of a name. -/
def nameB (c : Int) : Bool := wi c 97 122 || wi c 65 90 || wi c 48 57 || c == 33 || wi c 35 39 || c == 42 || c == 43 || c == 45 || c == 46 || wi c 94 96 || c == 124 || c == 126
set_option maxRecDepth 100000 in
theorem tok1_any (c : Int) (w : World) : Calls Tryz.prog 80 #[.int .u8 c] w fun e w' => e = .returned (.bool (nameB c)) ∧ w = w' := by
  cases e0 : (wi c 97 122)
  case false =>
    cases e1 : (wi c 65 90)
    case false =>
      cases e2 : (wi c 48 57)
      case false =>
        cases e3 : (c == 33)
        case false =>
          cases e4 : (wi c 35 39)
          case false =>
            cases e5 : (c == 42)
            case false =>
              cases e6 : (c == 43)
              case false =>
                cases e7 : (c == 45)
                case false =>
                  cases e8 : (c == 46)
                  case false =>
                    cases e9 : (wi c 94 96)
                    case false =>
                      cases e10 : (c == 124)
                      case false =>
                        cases e11 : (c == 126)
                        case false =>
                          go_enter Tryz.func80, Tryz.ntmps80
                          go_wp2_with (go_at_call 46; refine (within_any _ _ _ _).mono ?_; rintro e w' ⟨rfl, rfl⟩)
                          go_ret
                          exact ⟨ret_bool (by simp [nameB, e0, e1, e2, e3, e4, e5, e6, e7, e8, e9, e10, e11]), rfl⟩
                        case true =>
                          go_enter Tryz.func80, Tryz.ntmps80
                          go_wp2_with (go_at_call 46; refine (within_any _ _ _ _).mono ?_; rintro e w' ⟨rfl, rfl⟩)
                          go_ret
                          exact ⟨ret_bool (by simp [nameB, e0, e1, e2, e3, e4, e5, e6, e7, e8, e9, e10, e11]), rfl⟩
                      case true =>
                        go_enter Tryz.func80, Tryz.ntmps80
                        go_wp2_with (go_at_call 46; refine (within_any _ _ _ _).mono ?_; rintro e w' ⟨rfl, rfl⟩)
                        go_ret
                        exact ⟨ret_bool (by simp [nameB, e0, e1, e2, e3, e4, e5, e6, e7, e8, e9, e10]), rfl⟩
                    case true =>
                      go_enter Tryz.func80, Tryz.ntmps80
                      go_wp2_with (go_at_call 46; refine (within_any _ _ _ _).mono ?_; rintro e w' ⟨rfl, rfl⟩)
                      go_ret
                      exact ⟨ret_bool (by simp [nameB, e0, e1, e2, e3, e4, e5, e6, e7, e8, e9]), rfl⟩
                  case true =>
                    go_enter Tryz.func80, Tryz.ntmps80
                    go_wp2_with (go_at_call 46; refine (within_any _ _ _ _).mono ?_; rintro e w' ⟨rfl, rfl⟩)
                    go_ret
                    exact ⟨ret_bool (by simp [nameB, e0, e1, e2, e3, e4, e5, e6, e7, e8]), rfl⟩
                case true =>
                  go_enter Tryz.func80, Tryz.ntmps80
                  go_wp2_with (go_at_call 46; refine (within_any _ _ _ _).mono ?_; rintro e w' ⟨rfl, rfl⟩)
                  go_ret
                  exact ⟨ret_bool (by simp [nameB, e0, e1, e2, e3, e4, e5, e6, e7]), rfl⟩
              case true =>
                go_enter Tryz.func80, Tryz.ntmps80
                go_wp2_with (go_at_call 46; refine (within_any _ _ _ _).mono ?_; rintro e w' ⟨rfl, rfl⟩)
                go_ret
                exact ⟨ret_bool (by simp [nameB, e0, e1, e2, e3, e4, e5, e6]), rfl⟩
            case true =>
              go_enter Tryz.func80, Tryz.ntmps80
              go_wp2_with (go_at_call 46; refine (within_any _ _ _ _).mono ?_; rintro e w' ⟨rfl, rfl⟩)
              go_ret
              exact ⟨ret_bool (by simp [nameB, e0, e1, e2, e3, e4, e5]), rfl⟩
          case true =>
            go_enter Tryz.func80, Tryz.ntmps80
            go_wp2_with (go_at_call 46; refine (within_any _ _ _ _).mono ?_; rintro e w' ⟨rfl, rfl⟩)
            go_ret
            exact ⟨ret_bool (by simp [nameB, e0, e1, e2, e3, e4]), rfl⟩
        case true =>
          go_enter Tryz.func80, Tryz.ntmps80
          go_wp2_with (go_at_call 46; refine (within_any _ _ _ _).mono ?_; rintro e w' ⟨rfl, rfl⟩)
          go_ret
          exact ⟨ret_bool (by simp [nameB, e0, e1, e2, e3]), rfl⟩
      case true =>
        go_enter Tryz.func80, Tryz.ntmps80
        go_wp2_with (go_at_call 46; refine (within_any _ _ _ _).mono ?_; rintro e w' ⟨rfl, rfl⟩)
        go_ret
        exact ⟨ret_bool (by simp [nameB, e0, e1, e2]), rfl⟩
    case true =>
      go_enter Tryz.func80, Tryz.ntmps80
      go_wp2_with (go_at_call 46; refine (within_any _ _ _ _).mono ?_; rintro e w' ⟨rfl, rfl⟩)
      go_ret
      exact ⟨ret_bool (by simp [nameB, e0, e1]), rfl⟩
  case true =>
    go_enter Tryz.func80, Tryz.ntmps80
    go_wp2_with (go_at_call 46; refine (within_any _ _ _ _).mono ?_; rintro e w' ⟨rfl, rfl⟩)
    go_ret
    exact ⟨ret_bool (by simp [nameB, e0]), rfl⟩
/-- The bytes of a value. -/
def octB (c : Int) : Bool := wi c 33 126 && !(c == 34) && !(c == 44) && !(c == 59) && !(c == 92)
set_option maxRecDepth 100000 in
theorem oct1_any (c : Int) (w : World) : Calls Tryz.prog 81 #[.int .u8 c] w fun e w' => e = .returned (.bool (octB c)) ∧ w = w' := by
  cases e0 : (wi c 33 126)
  case false =>
    go_enter Tryz.func81, Tryz.ntmps81
    go_wp2_with (go_at_call 46; refine (within_any _ _ _ _).mono ?_; rintro e w' ⟨rfl, rfl⟩)
    go_ret
    exact ⟨ret_bool (by simp [octB, e0]), rfl⟩
  case true =>
    cases e1 : (c == 34)
    case false =>
      cases e2 : (c == 44)
      case false =>
        cases e3 : (c == 59)
        case false =>
          cases e4 : (c == 92)
          case false =>
            have n1 : (c != 34) = true := by rw [bne, e1]; rfl
            have n2 : (c != 44) = true := by rw [bne, e2]; rfl
            have n3 : (c != 59) = true := by rw [bne, e3]; rfl
            have n4 : (c != 92) = true := by rw [bne, e4]; rfl
            go_enter Tryz.func81, Tryz.ntmps81
            go_wp2_with (go_at_call 46; refine (within_any _ _ _ _).mono ?_; rintro e w' ⟨rfl, rfl⟩)
            go_ret
            exact ⟨ret_bool (by simp [octB, e0, e1, e2, e3, e4]), rfl⟩
          case true =>
            have n1 : (c != 34) = true := by rw [bne, e1]; rfl
            have n2 : (c != 44) = true := by rw [bne, e2]; rfl
            have n3 : (c != 59) = true := by rw [bne, e3]; rfl
            have n4 : (c != 92) = false := by rw [bne, e4]; rfl
            go_enter Tryz.func81, Tryz.ntmps81
            go_wp2_with (go_at_call 46; refine (within_any _ _ _ _).mono ?_; rintro e w' ⟨rfl, rfl⟩)
            go_ret
            exact ⟨ret_bool (by simp [octB, e0, e1, e2, e3, e4]), rfl⟩
        case true =>
          have n1 : (c != 34) = true := by rw [bne, e1]; rfl
          have n2 : (c != 44) = true := by rw [bne, e2]; rfl
          have n3 : (c != 59) = false := by rw [bne, e3]; rfl
          go_enter Tryz.func81, Tryz.ntmps81
          go_wp2_with (go_at_call 46; refine (within_any _ _ _ _).mono ?_; rintro e w' ⟨rfl, rfl⟩)
          go_ret
          exact ⟨ret_bool (by simp [octB, e0, e1, e2, e3]), rfl⟩
      case true =>
        have n1 : (c != 34) = true := by rw [bne, e1]; rfl
        have n2 : (c != 44) = false := by rw [bne, e2]; rfl
        go_enter Tryz.func81, Tryz.ntmps81
        go_wp2_with (go_at_call 46; refine (within_any _ _ _ _).mono ?_; rintro e w' ⟨rfl, rfl⟩)
        go_ret
        exact ⟨ret_bool (by simp [octB, e0, e1, e2]), rfl⟩
    case true =>
      have n1 : (c != 34) = false := by rw [bne, e1]; rfl
      go_enter Tryz.func81, Tryz.ntmps81
      go_wp2_with (go_at_call 46; refine (within_any _ _ _ _).mono ?_; rintro e w' ⟨rfl, rfl⟩)
      go_ret
      exact ⟨ret_bool (by simp [octB, e0, e1]), rfl⟩
/-- The bytes of a path. -/
def plainB (c : Int) : Bool := wi c 33 126 && !(c == 59)
set_option maxRecDepth 100000 in
theorem plain1_any (c : Int) (w : World) : Calls Tryz.prog 112 #[.int .u8 c] w fun e w' => e = .returned (.bool (plainB c)) ∧ w = w' := by
  cases e0 : (wi c 33 126)
  case false =>
    go_enter Tryz.func112, Tryz.ntmps112
    go_wp2_with (go_at_call 46; refine (within_any _ _ _ _).mono ?_; rintro e w' ⟨rfl, rfl⟩)
    go_ret
    exact ⟨ret_bool (by simp [plainB, e0]), rfl⟩
  case true =>
    cases e1 : (c == 59)
    case false =>
      have n1 : (c != 59) = true := by rw [bne, e1]; rfl
      go_enter Tryz.func112, Tryz.ntmps112
      go_wp2_with (go_at_call 46; refine (within_any _ _ _ _).mono ?_; rintro e w' ⟨rfl, rfl⟩)
      go_ret
      exact ⟨ret_bool (by simp [plainB, e0, e1]), rfl⟩
    case true =>
      have n1 : (c != 59) = false := by rw [bne, e1]; rfl
      go_enter Tryz.func112, Tryz.ntmps112
      go_wp2_with (go_at_call 46; refine (within_any _ _ _ _).mono ?_; rintro e w' ⟨rfl, rfl⟩)
      go_ret
      exact ⟨ret_bool (by simp [plainB, e0, e1]), rfl⟩
end Go.Proofs.YtngamlikhgilhaaGreatDoor
/- Contracts of package ascii and of its reference: tokens, octets and plain texts. -/
namespace Go.Proofs.YtngamlikhgilhaaGreatDoor
open Go.RowKit

/-- Is each byte of a text such? -/
def allB (p : Int → Bool) (s : ByteArray) : Bool := (bs s).all fun c => p (c.toNat : Int)
theorem all_take (p : Int → Bool) (s : ByteArray) (k : Nat) (hk : k < s.size) : ((bs s).take (k + 1)).all (fun c => p (c.toNat : Int)) = (((bs s).take k).all (fun c => p (c.toNat : Int)) && p (at_ s k)) := by
  have h' : k < (bs s).length := by rw [← size_bs]; exact hk
  rw [List.take_succ_eq_append_getElem h', List.all_append]
  simp [at_, List.getD_eq_getElem?_getD, h']
theorem all_no (p : Int → Bool) (s : ByteArray) (k : Nat) (hk : k < s.size) (h : p (at_ s k) = false) : allB p s = false := by
  have h' : k < (bs s).length := by rw [← size_bs]; exact hk
  unfold allB
  rw [List.all_eq_false]
  refine ⟨(bs s)[k], List.getElem_mem h', ?_⟩
  simp [at_, List.getD_eq_getElem?_getD, h'] at h
  simp [h]
theorem all_yes (p : Int → Bool) (s : ByteArray) (k : Nat) (hk : s.size ≤ k) (h : ((bs s).take k).all (fun c => p (c.toNat : Int)) = true) : allB p s = true := by
  rw [List.take_of_length_le (by rw [← size_bs]; exact hk)] at h
  exact h

set_option maxRecDepth 100000 in
theorem all_tok (s : ByteArray) (w : World) (hs : s.size ≤ 9223372036854775807) : Calls Tryz.prog 79 #[.string s, .func (.func 80) #[] #[]] w fun e w' => e = .returned (.bool (allB nameB s)) ∧ w = w' := by
  go_enter Tryz.func79, Tryz.ntmps79
  go_wp2_with fail
  go_loop [8] (fun i => ∃ k : Nat, k ≤ s.size ∧ i = .int .i64 k ∧ Hid (((bs s).take k).all (fun c => nameB (c.toNat : Int)) = true)) (fun i => s.size - (intOf i).toNat)
  case atStart => exact ⟨0, Nat.zero_le _, rfl, Lib.hid (by simp)⟩
  case round =>
    obtain ⟨k, hk, rfl, HA⟩ := hrel
    by_cases hlt : k < s.size
    · have HX := Lib.hid (at_get s k hlt)
      cases hb : nameB (at_ s k)
      · have HN := Lib.hid (all_no nameB s k hlt hb)
        go_wp2_with (go_at_call 80; refine (tok1_any _ _).mono ?_; rintro e w' ⟨rfl, rfl⟩; rw [HX.out])
        go_ret
        exact ⟨ret_bool HN.out.symm, rfl⟩
      · have HT := Lib.hid (all_take nameB s k hlt)
        have HB := Lib.hid hb
        go_wp2_with (go_at_call 80; refine (tok1_any _ _).mono ?_; rintro e w' ⟨rfl, rfl⟩; rw [HX.out])
        go_round
        case rel => exact ⟨k + 1, by omega, by go_num, Lib.hid (by rw [HT.out, HA.out, HB.out]; rfl)⟩
        case measure => simp [intOf]; omega
    · have HY := Lib.hid (all_yes nameB s k (by omega) HA.out)
      go_wp2_with fail
      go_ret
      exact ⟨ret_bool HY.out.symm, rfl⟩

set_option maxRecDepth 100000 in
theorem all_oct (s : ByteArray) (w : World) (hs : s.size ≤ 9223372036854775807) : Calls Tryz.prog 79 #[.string s, .func (.func 81) #[] #[]] w fun e w' => e = .returned (.bool (allB octB s)) ∧ w = w' := by
  go_enter Tryz.func79, Tryz.ntmps79
  go_wp2_with fail
  go_loop [8] (fun i => ∃ k : Nat, k ≤ s.size ∧ i = .int .i64 k ∧ Hid (((bs s).take k).all (fun c => octB (c.toNat : Int)) = true)) (fun i => s.size - (intOf i).toNat)
  case atStart => exact ⟨0, Nat.zero_le _, rfl, Lib.hid (by simp)⟩
  case round =>
    obtain ⟨k, hk, rfl, HA⟩ := hrel
    by_cases hlt : k < s.size
    · have HX := Lib.hid (at_get s k hlt)
      cases hb : octB (at_ s k)
      · have HN := Lib.hid (all_no octB s k hlt hb)
        go_wp2_with (go_at_call 81; refine (oct1_any _ _).mono ?_; rintro e w' ⟨rfl, rfl⟩; rw [HX.out])
        go_ret
        exact ⟨ret_bool HN.out.symm, rfl⟩
      · have HT := Lib.hid (all_take octB s k hlt)
        have HB := Lib.hid hb
        go_wp2_with (go_at_call 81; refine (oct1_any _ _).mono ?_; rintro e w' ⟨rfl, rfl⟩; rw [HX.out])
        go_round
        case rel => exact ⟨k + 1, by omega, by go_num, Lib.hid (by rw [HT.out, HA.out, HB.out]; rfl)⟩
        case measure => simp [intOf]; omega
    · have HY := Lib.hid (all_yes octB s k (by omega) HA.out)
      go_wp2_with fail
      go_ret
      exact ⟨ret_bool HY.out.symm, rfl⟩

set_option maxRecDepth 100000 in
theorem all_plain (s : ByteArray) (w : World) (hs : s.size ≤ 9223372036854775807) : Calls Tryz.prog 79 #[.string s, .func (.func 112) #[] #[]] w fun e w' => e = .returned (.bool (allB plainB s)) ∧ w = w' := by
  go_enter Tryz.func79, Tryz.ntmps79
  go_wp2_with fail
  go_loop [8] (fun i => ∃ k : Nat, k ≤ s.size ∧ i = .int .i64 k ∧ Hid (((bs s).take k).all (fun c => plainB (c.toNat : Int)) = true)) (fun i => s.size - (intOf i).toNat)
  case atStart => exact ⟨0, Nat.zero_le _, rfl, Lib.hid (by simp)⟩
  case round =>
    obtain ⟨k, hk, rfl, HA⟩ := hrel
    by_cases hlt : k < s.size
    · have HX := Lib.hid (at_get s k hlt)
      cases hb : plainB (at_ s k)
      · have HN := Lib.hid (all_no plainB s k hlt hb)
        go_wp2_with (go_at_call 112; refine (plain1_any _ _).mono ?_; rintro e w' ⟨rfl, rfl⟩; rw [HX.out])
        go_ret
        exact ⟨ret_bool HN.out.symm, rfl⟩
      · have HT := Lib.hid (all_take plainB s k hlt)
        have HB := Lib.hid hb
        go_wp2_with (go_at_call 112; refine (plain1_any _ _).mono ?_; rintro e w' ⟨rfl, rfl⟩; rw [HX.out])
        go_round
        case rel => exact ⟨k + 1, by omega, by go_num, Lib.hid (by rw [HT.out, HA.out, HB.out]; rfl)⟩
        case measure => simp [intOf]; omega
    · have HY := Lib.hid (all_yes plainB s k (by omega) HA.out)
      go_wp2_with fail
      go_ret
      exact ⟨ret_bool HY.out.symm, rfl⟩
end Go.Proofs.YtngamlikhgilhaaGreatDoor
/- Contracts of package ascii and of its reference: tokens, octets and plain texts, second part. -/
namespace Go.Proofs.YtngamlikhgilhaaGreatDoor
open Go.RowKit

theorem tl_bs (s : ByteArray) : s.toList = bs s := ByteArray.toList_eq s
theorem str_eq (a b : ByteArray) : (a.toList == b.toList) = true ↔ a = b := by
  rw [beq_iff_eq, tl_bs, tl_bs]
  exact ⟨bs_inj, fun h => by rw [h]⟩
/-- Is a text a token? -/
def tokB (s : ByteArray) : Bool := !(bs s).isEmpty && allB nameB s
theorem octets_any (s : ByteArray) (w : World) (hs : s.size ≤ 9223372036854775807) : Calls Tryz.prog 38 #[.string s] w fun e w' => e = .returned (.bool (allB octB s)) ∧ w = w' := by
  go_enter Tryz.func38, Tryz.ntmps38
  go_wp2_with fail
  refine (all_oct s _ hs).mono ?_
  rintro e w' ⟨rfl, rfl⟩
  go_wp2_with fail
  go_ret
  exact ⟨rfl, rfl⟩
theorem plain_any (s : ByteArray) (w : World) (hs : s.size ≤ 9223372036854775807) : Calls Tryz.prog 78 #[.string s] w fun e w' => e = .returned (.bool (allB plainB s)) ∧ w = w' := by
  go_enter Tryz.func78, Tryz.ntmps78
  go_wp2_with fail
  refine (all_plain s _ hs).mono ?_
  rintro e w' ⟨rfl, rfl⟩
  go_wp2_with fail
  go_ret
  exact ⟨rfl, rfl⟩
theorem token_any (s : ByteArray) (w : World) (hs : s.size ≤ 9223372036854775807) : Calls Tryz.prog 37 #[.string s] w fun e w' => e = .returned (.bool (tokB s)) ∧ w = w' := by
  cases h : (bs s).isEmpty
  · have h0 : s.toList.isEmpty = false := by rw [tl_bs]; exact h
    have HT := Lib.hid (show tokB s = allB nameB s by simp [tokB, h])
    clear h
    go_enter Tryz.func37, Tryz.ntmps37
    go_wp2_with fail
    refine (all_tok s _ hs).mono ?_
    rintro e w' ⟨rfl, rfl⟩
    go_wp2_with fail
    go_ret
    exact ⟨ret_bool HT.out.symm, rfl⟩
  · have h0 : s.toList = [] := by rw [tl_bs]; simpa using h
    have HT := Lib.hid (show tokB s = false by simp [tokB, h])
    clear h
    go_enter Tryz.func37, Tryz.ntmps37
    go_wp2_with fail
    go_ret
    exact ⟨ret_bool HT.out.symm, rfl⟩
end Go.Proofs.YtngamlikhgilhaaGreatDoor
/- Contracts of the reference's classes of bytes (package cracknelref01). -/
namespace Go.Proofs.YtngamlikhgilhaaGreatDoor
open Go.RowKit

theorem rname_any_0 (c : Int) (w : World) (h1 : 0 ≤ c) (h2 : c ≤ 32) : Calls Tryz.prog 86 #[.int .u8 c] w fun e w' => e = .returned (.bool (nameB c)) ∧ w = w' := by
  have hv : nameB c = false := by unfold nameB wi; simp; omega
  have HV := Lib.hid hv
  clear hv
  have e33 : (c == 33) = false := beq_eq_false_iff_ne.2 (by omega)
  have e42 : (c == 42) = false := beq_eq_false_iff_ne.2 (by omega)
  have e43 : (c == 43) = false := beq_eq_false_iff_ne.2 (by omega)
  have e45 : (c == 45) = false := beq_eq_false_iff_ne.2 (by omega)
  have e46 : (c == 46) = false := beq_eq_false_iff_ne.2 (by omega)
  have e124 : (c == 124) = false := beq_eq_false_iff_ne.2 (by omega)
  have e126 : (c == 126) = false := beq_eq_false_iff_ne.2 (by omega)
  go_enter Tryz.func86, Tryz.ntmps86
  go_wp2
  go_ret
  exact ⟨ret_bool (by first | exact HV.out.symm | (rw [HV.out]; simp; omega)), rfl⟩

theorem rname_any_33 (w : World) : Calls Tryz.prog 86 #[.int .u8 33] w fun e w' => e = .returned (.bool (nameB 33)) ∧ w = w' := by
  have hv : nameB 33 = true := by decide
  have HV := Lib.hid hv
  clear hv
  go_enter Tryz.func86, Tryz.ntmps86
  go_wp2
  go_ret
  exact ⟨ret_bool HV.out.symm, rfl⟩

theorem rname_any_34 (w : World) : Calls Tryz.prog 86 #[.int .u8 34] w fun e w' => e = .returned (.bool (nameB 34)) ∧ w = w' := by
  have hv : nameB 34 = false := by decide
  have HV := Lib.hid hv
  clear hv
  go_enter Tryz.func86, Tryz.ntmps86
  go_wp2
  go_ret
  exact ⟨ret_bool HV.out.symm, rfl⟩

theorem rname_any_35 (c : Int) (w : World) (h1 : 35 ≤ c) (h2 : c ≤ 39) : Calls Tryz.prog 86 #[.int .u8 c] w fun e w' => e = .returned (.bool (nameB c)) ∧ w = w' := by
  have hv : nameB c = true := by unfold nameB wi; simp; omega
  have HV := Lib.hid hv
  clear hv
  have e33 : (c == 33) = false := beq_eq_false_iff_ne.2 (by omega)
  have e42 : (c == 42) = false := beq_eq_false_iff_ne.2 (by omega)
  have e43 : (c == 43) = false := beq_eq_false_iff_ne.2 (by omega)
  have e45 : (c == 45) = false := beq_eq_false_iff_ne.2 (by omega)
  have e46 : (c == 46) = false := beq_eq_false_iff_ne.2 (by omega)
  have e124 : (c == 124) = false := beq_eq_false_iff_ne.2 (by omega)
  have e126 : (c == 126) = false := beq_eq_false_iff_ne.2 (by omega)
  go_enter Tryz.func86, Tryz.ntmps86
  go_wp2
  go_ret
  exact ⟨ret_bool (by first | exact HV.out.symm | (rw [HV.out]; simp; omega)), rfl⟩

theorem rname_any_40 (c : Int) (w : World) (h1 : 40 ≤ c) (h2 : c ≤ 41) : Calls Tryz.prog 86 #[.int .u8 c] w fun e w' => e = .returned (.bool (nameB c)) ∧ w = w' := by
  have hv : nameB c = false := by unfold nameB wi; simp; omega
  have HV := Lib.hid hv
  clear hv
  have e33 : (c == 33) = false := beq_eq_false_iff_ne.2 (by omega)
  have e42 : (c == 42) = false := beq_eq_false_iff_ne.2 (by omega)
  have e43 : (c == 43) = false := beq_eq_false_iff_ne.2 (by omega)
  have e45 : (c == 45) = false := beq_eq_false_iff_ne.2 (by omega)
  have e46 : (c == 46) = false := beq_eq_false_iff_ne.2 (by omega)
  have e124 : (c == 124) = false := beq_eq_false_iff_ne.2 (by omega)
  have e126 : (c == 126) = false := beq_eq_false_iff_ne.2 (by omega)
  go_enter Tryz.func86, Tryz.ntmps86
  go_wp2
  go_ret
  exact ⟨ret_bool (by first | exact HV.out.symm | (rw [HV.out]; simp; omega)), rfl⟩

theorem rname_any_42 (w : World) : Calls Tryz.prog 86 #[.int .u8 42] w fun e w' => e = .returned (.bool (nameB 42)) ∧ w = w' := by
  have hv : nameB 42 = true := by decide
  have HV := Lib.hid hv
  clear hv
  go_enter Tryz.func86, Tryz.ntmps86
  go_wp2
  go_ret
  exact ⟨ret_bool HV.out.symm, rfl⟩

theorem rname_any_43 (w : World) : Calls Tryz.prog 86 #[.int .u8 43] w fun e w' => e = .returned (.bool (nameB 43)) ∧ w = w' := by
  have hv : nameB 43 = true := by decide
  have HV := Lib.hid hv
  clear hv
  go_enter Tryz.func86, Tryz.ntmps86
  go_wp2
  go_ret
  exact ⟨ret_bool HV.out.symm, rfl⟩

theorem rname_any_44 (w : World) : Calls Tryz.prog 86 #[.int .u8 44] w fun e w' => e = .returned (.bool (nameB 44)) ∧ w = w' := by
  have hv : nameB 44 = false := by decide
  have HV := Lib.hid hv
  clear hv
  go_enter Tryz.func86, Tryz.ntmps86
  go_wp2
  go_ret
  exact ⟨ret_bool HV.out.symm, rfl⟩

theorem rname_any_45 (w : World) : Calls Tryz.prog 86 #[.int .u8 45] w fun e w' => e = .returned (.bool (nameB 45)) ∧ w = w' := by
  have hv : nameB 45 = true := by decide
  have HV := Lib.hid hv
  clear hv
  go_enter Tryz.func86, Tryz.ntmps86
  go_wp2
  go_ret
  exact ⟨ret_bool HV.out.symm, rfl⟩

theorem rname_any_46 (w : World) : Calls Tryz.prog 86 #[.int .u8 46] w fun e w' => e = .returned (.bool (nameB 46)) ∧ w = w' := by
  have hv : nameB 46 = true := by decide
  have HV := Lib.hid hv
  clear hv
  go_enter Tryz.func86, Tryz.ntmps86
  go_wp2
  go_ret
  exact ⟨ret_bool HV.out.symm, rfl⟩

theorem rname_any_47 (w : World) : Calls Tryz.prog 86 #[.int .u8 47] w fun e w' => e = .returned (.bool (nameB 47)) ∧ w = w' := by
  have hv : nameB 47 = false := by decide
  have HV := Lib.hid hv
  clear hv
  go_enter Tryz.func86, Tryz.ntmps86
  go_wp2
  go_ret
  exact ⟨ret_bool HV.out.symm, rfl⟩

theorem rname_any_48 (c : Int) (w : World) (h1 : 48 ≤ c) (h2 : c ≤ 57) : Calls Tryz.prog 86 #[.int .u8 c] w fun e w' => e = .returned (.bool (nameB c)) ∧ w = w' := by
  have hv : nameB c = true := by unfold nameB wi; simp; omega
  have HV := Lib.hid hv
  clear hv
  have e33 : (c == 33) = false := beq_eq_false_iff_ne.2 (by omega)
  have e42 : (c == 42) = false := beq_eq_false_iff_ne.2 (by omega)
  have e43 : (c == 43) = false := beq_eq_false_iff_ne.2 (by omega)
  have e45 : (c == 45) = false := beq_eq_false_iff_ne.2 (by omega)
  have e46 : (c == 46) = false := beq_eq_false_iff_ne.2 (by omega)
  have e124 : (c == 124) = false := beq_eq_false_iff_ne.2 (by omega)
  have e126 : (c == 126) = false := beq_eq_false_iff_ne.2 (by omega)
  go_enter Tryz.func86, Tryz.ntmps86
  go_wp2
  go_ret
  exact ⟨ret_bool (by first | exact HV.out.symm | (rw [HV.out]; simp; omega)), rfl⟩

theorem rname_any_58 (c : Int) (w : World) (h1 : 58 ≤ c) (h2 : c ≤ 64) : Calls Tryz.prog 86 #[.int .u8 c] w fun e w' => e = .returned (.bool (nameB c)) ∧ w = w' := by
  have hv : nameB c = false := by unfold nameB wi; simp; omega
  have HV := Lib.hid hv
  clear hv
  have e33 : (c == 33) = false := beq_eq_false_iff_ne.2 (by omega)
  have e42 : (c == 42) = false := beq_eq_false_iff_ne.2 (by omega)
  have e43 : (c == 43) = false := beq_eq_false_iff_ne.2 (by omega)
  have e45 : (c == 45) = false := beq_eq_false_iff_ne.2 (by omega)
  have e46 : (c == 46) = false := beq_eq_false_iff_ne.2 (by omega)
  have e124 : (c == 124) = false := beq_eq_false_iff_ne.2 (by omega)
  have e126 : (c == 126) = false := beq_eq_false_iff_ne.2 (by omega)
  go_enter Tryz.func86, Tryz.ntmps86
  go_wp2
  go_ret
  exact ⟨ret_bool (by first | exact HV.out.symm | (rw [HV.out]; simp; omega)), rfl⟩

theorem rname_any_65 (c : Int) (w : World) (h1 : 65 ≤ c) (h2 : c ≤ 90) : Calls Tryz.prog 86 #[.int .u8 c] w fun e w' => e = .returned (.bool (nameB c)) ∧ w = w' := by
  have hv : nameB c = true := by unfold nameB wi; simp; omega
  have HV := Lib.hid hv
  clear hv
  have e33 : (c == 33) = false := beq_eq_false_iff_ne.2 (by omega)
  have e42 : (c == 42) = false := beq_eq_false_iff_ne.2 (by omega)
  have e43 : (c == 43) = false := beq_eq_false_iff_ne.2 (by omega)
  have e45 : (c == 45) = false := beq_eq_false_iff_ne.2 (by omega)
  have e46 : (c == 46) = false := beq_eq_false_iff_ne.2 (by omega)
  have e124 : (c == 124) = false := beq_eq_false_iff_ne.2 (by omega)
  have e126 : (c == 126) = false := beq_eq_false_iff_ne.2 (by omega)
  go_enter Tryz.func86, Tryz.ntmps86
  go_wp2
  go_ret
  exact ⟨ret_bool (by first | exact HV.out.symm | (rw [HV.out]; simp; omega)), rfl⟩

theorem rname_any_91 (c : Int) (w : World) (h1 : 91 ≤ c) (h2 : c ≤ 93) : Calls Tryz.prog 86 #[.int .u8 c] w fun e w' => e = .returned (.bool (nameB c)) ∧ w = w' := by
  have hv : nameB c = false := by unfold nameB wi; simp; omega
  have HV := Lib.hid hv
  clear hv
  have e33 : (c == 33) = false := beq_eq_false_iff_ne.2 (by omega)
  have e42 : (c == 42) = false := beq_eq_false_iff_ne.2 (by omega)
  have e43 : (c == 43) = false := beq_eq_false_iff_ne.2 (by omega)
  have e45 : (c == 45) = false := beq_eq_false_iff_ne.2 (by omega)
  have e46 : (c == 46) = false := beq_eq_false_iff_ne.2 (by omega)
  have e124 : (c == 124) = false := beq_eq_false_iff_ne.2 (by omega)
  have e126 : (c == 126) = false := beq_eq_false_iff_ne.2 (by omega)
  go_enter Tryz.func86, Tryz.ntmps86
  go_wp2
  go_ret
  exact ⟨ret_bool (by first | exact HV.out.symm | (rw [HV.out]; simp; omega)), rfl⟩

theorem rname_any_94 (c : Int) (w : World) (h1 : 94 ≤ c) (h2 : c ≤ 96) : Calls Tryz.prog 86 #[.int .u8 c] w fun e w' => e = .returned (.bool (nameB c)) ∧ w = w' := by
  have hv : nameB c = true := by unfold nameB wi; simp; omega
  have HV := Lib.hid hv
  clear hv
  have e33 : (c == 33) = false := beq_eq_false_iff_ne.2 (by omega)
  have e42 : (c == 42) = false := beq_eq_false_iff_ne.2 (by omega)
  have e43 : (c == 43) = false := beq_eq_false_iff_ne.2 (by omega)
  have e45 : (c == 45) = false := beq_eq_false_iff_ne.2 (by omega)
  have e46 : (c == 46) = false := beq_eq_false_iff_ne.2 (by omega)
  have e124 : (c == 124) = false := beq_eq_false_iff_ne.2 (by omega)
  have e126 : (c == 126) = false := beq_eq_false_iff_ne.2 (by omega)
  go_enter Tryz.func86, Tryz.ntmps86
  go_wp2
  go_ret
  exact ⟨ret_bool (by first | exact HV.out.symm | (rw [HV.out]; simp; omega)), rfl⟩

theorem rname_any_97 (c : Int) (w : World) (h1 : 97 ≤ c) (h2 : c ≤ 122) : Calls Tryz.prog 86 #[.int .u8 c] w fun e w' => e = .returned (.bool (nameB c)) ∧ w = w' := by
  have hv : nameB c = true := by unfold nameB wi; simp; omega
  have HV := Lib.hid hv
  clear hv
  have e33 : (c == 33) = false := beq_eq_false_iff_ne.2 (by omega)
  have e42 : (c == 42) = false := beq_eq_false_iff_ne.2 (by omega)
  have e43 : (c == 43) = false := beq_eq_false_iff_ne.2 (by omega)
  have e45 : (c == 45) = false := beq_eq_false_iff_ne.2 (by omega)
  have e46 : (c == 46) = false := beq_eq_false_iff_ne.2 (by omega)
  have e124 : (c == 124) = false := beq_eq_false_iff_ne.2 (by omega)
  have e126 : (c == 126) = false := beq_eq_false_iff_ne.2 (by omega)
  go_enter Tryz.func86, Tryz.ntmps86
  go_wp2
  go_ret
  exact ⟨ret_bool (by first | exact HV.out.symm | (rw [HV.out]; simp; omega)), rfl⟩

theorem rname_any_123 (w : World) : Calls Tryz.prog 86 #[.int .u8 123] w fun e w' => e = .returned (.bool (nameB 123)) ∧ w = w' := by
  have hv : nameB 123 = false := by decide
  have HV := Lib.hid hv
  clear hv
  go_enter Tryz.func86, Tryz.ntmps86
  go_wp2
  go_ret
  exact ⟨ret_bool HV.out.symm, rfl⟩

theorem rname_any_124 (w : World) : Calls Tryz.prog 86 #[.int .u8 124] w fun e w' => e = .returned (.bool (nameB 124)) ∧ w = w' := by
  have hv : nameB 124 = true := by decide
  have HV := Lib.hid hv
  clear hv
  go_enter Tryz.func86, Tryz.ntmps86
  go_wp2
  go_ret
  exact ⟨ret_bool HV.out.symm, rfl⟩

theorem rname_any_125 (w : World) : Calls Tryz.prog 86 #[.int .u8 125] w fun e w' => e = .returned (.bool (nameB 125)) ∧ w = w' := by
  have hv : nameB 125 = false := by decide
  have HV := Lib.hid hv
  clear hv
  go_enter Tryz.func86, Tryz.ntmps86
  go_wp2
  go_ret
  exact ⟨ret_bool HV.out.symm, rfl⟩

theorem rname_any_126 (w : World) : Calls Tryz.prog 86 #[.int .u8 126] w fun e w' => e = .returned (.bool (nameB 126)) ∧ w = w' := by
  have hv : nameB 126 = true := by decide
  have HV := Lib.hid hv
  clear hv
  go_enter Tryz.func86, Tryz.ntmps86
  go_wp2
  go_ret
  exact ⟨ret_bool HV.out.symm, rfl⟩

theorem rname_any_127 (c : Int) (w : World) (h1 : 127 ≤ c) (h2 : c ≤ 255) : Calls Tryz.prog 86 #[.int .u8 c] w fun e w' => e = .returned (.bool (nameB c)) ∧ w = w' := by
  have hv : nameB c = false := by unfold nameB wi; simp; omega
  have HV := Lib.hid hv
  clear hv
  have e33 : (c == 33) = false := beq_eq_false_iff_ne.2 (by omega)
  have e42 : (c == 42) = false := beq_eq_false_iff_ne.2 (by omega)
  have e43 : (c == 43) = false := beq_eq_false_iff_ne.2 (by omega)
  have e45 : (c == 45) = false := beq_eq_false_iff_ne.2 (by omega)
  have e46 : (c == 46) = false := beq_eq_false_iff_ne.2 (by omega)
  have e124 : (c == 124) = false := beq_eq_false_iff_ne.2 (by omega)
  have e126 : (c == 126) = false := beq_eq_false_iff_ne.2 (by omega)
  go_enter Tryz.func86, Tryz.ntmps86
  go_wp2
  go_ret
  exact ⟨ret_bool (by first | exact HV.out.symm | (rw [HV.out]; simp; omega)), rfl⟩

theorem rname_any (c : Int) (w : World) (h0 : 0 ≤ c) (h1 : c < 256) : Calls Tryz.prog 86 #[.int .u8 c] w fun e w' => e = .returned (.bool (nameB c)) ∧ w = w' := by
  by_cases k0 : c ≤ 32
  · exact rname_any_0 c w (by omega) (by omega)
  by_cases k1 : c = 33
  · subst k1; exact rname_any_33 w
  by_cases k2 : c = 34
  · subst k2; exact rname_any_34 w
  by_cases k3 : c ≤ 39
  · exact rname_any_35 c w (by omega) (by omega)
  by_cases k4 : c ≤ 41
  · exact rname_any_40 c w (by omega) (by omega)
  by_cases k5 : c = 42
  · subst k5; exact rname_any_42 w
  by_cases k6 : c = 43
  · subst k6; exact rname_any_43 w
  by_cases k7 : c = 44
  · subst k7; exact rname_any_44 w
  by_cases k8 : c = 45
  · subst k8; exact rname_any_45 w
  by_cases k9 : c = 46
  · subst k9; exact rname_any_46 w
  by_cases k10 : c = 47
  · subst k10; exact rname_any_47 w
  by_cases k11 : c ≤ 57
  · exact rname_any_48 c w (by omega) (by omega)
  by_cases k12 : c ≤ 64
  · exact rname_any_58 c w (by omega) (by omega)
  by_cases k13 : c ≤ 90
  · exact rname_any_65 c w (by omega) (by omega)
  by_cases k14 : c ≤ 93
  · exact rname_any_91 c w (by omega) (by omega)
  by_cases k15 : c ≤ 96
  · exact rname_any_94 c w (by omega) (by omega)
  by_cases k16 : c ≤ 122
  · exact rname_any_97 c w (by omega) (by omega)
  by_cases k17 : c = 123
  · subst k17; exact rname_any_123 w
  by_cases k18 : c = 124
  · subst k18; exact rname_any_124 w
  by_cases k19 : c = 125
  · subst k19; exact rname_any_125 w
  by_cases k20 : c = 126
  · subst k20; exact rname_any_126 w
  exact rname_any_127 c w (by omega) (by omega)

theorem roctet_any_0 (c : Int) (w : World) (h1 : 0 ≤ c) (h2 : c ≤ 32) : Calls Tryz.prog 87 #[.int .u8 c] w fun e w' => e = .returned (.bool (octB c)) ∧ w = w' := by
  have hv : octB c = false := by unfold octB wi; simp; omega
  have HV := Lib.hid hv
  clear hv
  have e33 : (c == 33) = false := beq_eq_false_iff_ne.2 (by omega)
  go_enter Tryz.func87, Tryz.ntmps87
  go_wp2
  go_ret
  exact ⟨ret_bool (by first | exact HV.out.symm | (rw [HV.out]; simp; omega)), rfl⟩

theorem roctet_any_33 (w : World) : Calls Tryz.prog 87 #[.int .u8 33] w fun e w' => e = .returned (.bool (octB 33)) ∧ w = w' := by
  have hv : octB 33 = true := by decide
  have HV := Lib.hid hv
  clear hv
  go_enter Tryz.func87, Tryz.ntmps87
  go_wp2
  go_ret
  exact ⟨ret_bool HV.out.symm, rfl⟩

theorem roctet_any_34 (w : World) : Calls Tryz.prog 87 #[.int .u8 34] w fun e w' => e = .returned (.bool (octB 34)) ∧ w = w' := by
  have hv : octB 34 = false := by decide
  have HV := Lib.hid hv
  clear hv
  go_enter Tryz.func87, Tryz.ntmps87
  go_wp2
  go_ret
  exact ⟨ret_bool HV.out.symm, rfl⟩

theorem roctet_any_35 (c : Int) (w : World) (h1 : 35 ≤ c) (h2 : c ≤ 43) : Calls Tryz.prog 87 #[.int .u8 c] w fun e w' => e = .returned (.bool (octB c)) ∧ w = w' := by
  have hv : octB c = true := by unfold octB wi; simp; omega
  have HV := Lib.hid hv
  clear hv
  have e33 : (c == 33) = false := beq_eq_false_iff_ne.2 (by omega)
  go_enter Tryz.func87, Tryz.ntmps87
  go_wp2
  go_ret
  exact ⟨ret_bool (by first | exact HV.out.symm | (rw [HV.out]; simp; omega)), rfl⟩

theorem roctet_any_44 (w : World) : Calls Tryz.prog 87 #[.int .u8 44] w fun e w' => e = .returned (.bool (octB 44)) ∧ w = w' := by
  have hv : octB 44 = false := by decide
  have HV := Lib.hid hv
  clear hv
  go_enter Tryz.func87, Tryz.ntmps87
  go_wp2
  go_ret
  exact ⟨ret_bool HV.out.symm, rfl⟩

theorem roctet_any_45 (c : Int) (w : World) (h1 : 45 ≤ c) (h2 : c ≤ 58) : Calls Tryz.prog 87 #[.int .u8 c] w fun e w' => e = .returned (.bool (octB c)) ∧ w = w' := by
  have hv : octB c = true := by unfold octB wi; simp; omega
  have HV := Lib.hid hv
  clear hv
  have e33 : (c == 33) = false := beq_eq_false_iff_ne.2 (by omega)
  go_enter Tryz.func87, Tryz.ntmps87
  go_wp2
  go_ret
  exact ⟨ret_bool (by first | exact HV.out.symm | (rw [HV.out]; simp; omega)), rfl⟩

theorem roctet_any_59 (w : World) : Calls Tryz.prog 87 #[.int .u8 59] w fun e w' => e = .returned (.bool (octB 59)) ∧ w = w' := by
  have hv : octB 59 = false := by decide
  have HV := Lib.hid hv
  clear hv
  go_enter Tryz.func87, Tryz.ntmps87
  go_wp2
  go_ret
  exact ⟨ret_bool HV.out.symm, rfl⟩

theorem roctet_any_60 (c : Int) (w : World) (h1 : 60 ≤ c) (h2 : c ≤ 91) : Calls Tryz.prog 87 #[.int .u8 c] w fun e w' => e = .returned (.bool (octB c)) ∧ w = w' := by
  have hv : octB c = true := by unfold octB wi; simp; omega
  have HV := Lib.hid hv
  clear hv
  have e33 : (c == 33) = false := beq_eq_false_iff_ne.2 (by omega)
  go_enter Tryz.func87, Tryz.ntmps87
  go_wp2
  go_ret
  exact ⟨ret_bool (by first | exact HV.out.symm | (rw [HV.out]; simp; omega)), rfl⟩

theorem roctet_any_92 (w : World) : Calls Tryz.prog 87 #[.int .u8 92] w fun e w' => e = .returned (.bool (octB 92)) ∧ w = w' := by
  have hv : octB 92 = false := by decide
  have HV := Lib.hid hv
  clear hv
  go_enter Tryz.func87, Tryz.ntmps87
  go_wp2
  go_ret
  exact ⟨ret_bool HV.out.symm, rfl⟩

theorem roctet_any_93 (c : Int) (w : World) (h1 : 93 ≤ c) (h2 : c ≤ 126) : Calls Tryz.prog 87 #[.int .u8 c] w fun e w' => e = .returned (.bool (octB c)) ∧ w = w' := by
  have hv : octB c = true := by unfold octB wi; simp; omega
  have HV := Lib.hid hv
  clear hv
  have e33 : (c == 33) = false := beq_eq_false_iff_ne.2 (by omega)
  go_enter Tryz.func87, Tryz.ntmps87
  go_wp2
  go_ret
  exact ⟨ret_bool (by first | exact HV.out.symm | (rw [HV.out]; simp; omega)), rfl⟩

theorem roctet_any_127 (c : Int) (w : World) (h1 : 127 ≤ c) (h2 : c ≤ 255) : Calls Tryz.prog 87 #[.int .u8 c] w fun e w' => e = .returned (.bool (octB c)) ∧ w = w' := by
  have hv : octB c = false := by unfold octB wi; simp; omega
  have HV := Lib.hid hv
  clear hv
  have e33 : (c == 33) = false := beq_eq_false_iff_ne.2 (by omega)
  go_enter Tryz.func87, Tryz.ntmps87
  go_wp2
  go_ret
  exact ⟨ret_bool (by first | exact HV.out.symm | (rw [HV.out]; simp; omega)), rfl⟩

theorem roctet_any (c : Int) (w : World) (h0 : 0 ≤ c) (h1 : c < 256) : Calls Tryz.prog 87 #[.int .u8 c] w fun e w' => e = .returned (.bool (octB c)) ∧ w = w' := by
  by_cases k0 : c ≤ 32
  · exact roctet_any_0 c w (by omega) (by omega)
  by_cases k1 : c = 33
  · subst k1; exact roctet_any_33 w
  by_cases k2 : c = 34
  · subst k2; exact roctet_any_34 w
  by_cases k3 : c ≤ 43
  · exact roctet_any_35 c w (by omega) (by omega)
  by_cases k4 : c = 44
  · subst k4; exact roctet_any_44 w
  by_cases k5 : c ≤ 58
  · exact roctet_any_45 c w (by omega) (by omega)
  by_cases k6 : c = 59
  · subst k6; exact roctet_any_59 w
  by_cases k7 : c ≤ 91
  · exact roctet_any_60 c w (by omega) (by omega)
  by_cases k8 : c = 92
  · subst k8; exact roctet_any_92 w
  by_cases k9 : c ≤ 126
  · exact roctet_any_93 c w (by omega) (by omega)
  exact roctet_any_127 c w (by omega) (by omega)


set_option maxRecDepth 100000 in
theorem rtoken_any (s : ByteArray) (w : World) (hs : s.size ≤ 9223372036854775807) : Calls Tryz.prog 42 #[.string s] w fun e w' => e = .returned (.bool (tokB s)) ∧ w = w' := by
  go_enter Tryz.func42, Tryz.ntmps42
  go_wp2_with fail
  go_loop [3] (fun i => ∃ k : Nat, k ≤ s.size ∧ i = .int .i64 k ∧ Hid (((bs s).take k).all (fun c => nameB (c.toNat : Int)) = true)) (fun i => s.size - (intOf i).toNat)
  case atStart => exact ⟨0, Nat.zero_le _, rfl, Lib.hid (by simp)⟩
  case round =>
    obtain ⟨k, hk, rfl, HA⟩ := hrel
    by_cases hlt : k < s.size
    · have HX := Lib.hid (at_get s k hlt)
      obtain ⟨b1, b2⟩ := at_bd s k
      cases hb : nameB (at_ s k)
      · have HN := Lib.hid (all_no nameB s k hlt hb)
        have HT2 := Lib.hid (show tokB s = false by unfold tokB; rw [HN.out]; simp)
        go_wp2_with (go_at_call 86; rw [HX.out]; refine (rname_any _ _ b1 b2).mono ?_; rintro e w' ⟨rfl, rfl⟩)
        go_ret
        exact ⟨ret_bool HT2.out.symm, rfl⟩
      · have HT := Lib.hid (all_take nameB s k hlt)
        have HB := Lib.hid hb
        go_wp2_with (go_at_call 86; rw [HX.out]; refine (rname_any _ _ b1 b2).mono ?_; rintro e w' ⟨rfl, rfl⟩)
        go_round
        case rel => exact ⟨k + 1, by omega, by go_num, Lib.hid (by rw [HT.out, HA.out, HB.out]; rfl)⟩
        case measure => simp [intOf]; omega
    · have HY := Lib.hid (all_yes nameB s k (by omega) HA.out)
      have HT2 := Lib.hid (show tokB s = decide (0 < s.size) by
        unfold tokB
        rw [HY.out, size_bs]
        cases bs s <;> simp)
      go_wp2_with fail
      go_ret
      exact ⟨ret_bool HT2.out.symm, rfl⟩

set_option maxRecDepth 100000 in
theorem roctets_any (s : ByteArray) (w : World) (hs : s.size ≤ 9223372036854775807) : Calls Tryz.prog 43 #[.string s] w fun e w' => e = .returned (.bool (allB octB s)) ∧ w = w' := by
  go_enter Tryz.func43, Tryz.ntmps43
  go_wp2_with fail
  go_loop [3] (fun i => ∃ k : Nat, k ≤ s.size ∧ i = .int .i64 k ∧ Hid (((bs s).take k).all (fun c => octB (c.toNat : Int)) = true)) (fun i => s.size - (intOf i).toNat)
  case atStart => exact ⟨0, Nat.zero_le _, rfl, Lib.hid (by simp)⟩
  case round =>
    obtain ⟨k, hk, rfl, HA⟩ := hrel
    by_cases hlt : k < s.size
    · have HX := Lib.hid (at_get s k hlt)
      obtain ⟨b1, b2⟩ := at_bd s k
      cases hb : octB (at_ s k)
      · have HN := Lib.hid (all_no octB s k hlt hb)
        
        go_wp2_with (go_at_call 87; rw [HX.out]; refine (roctet_any _ _ b1 b2).mono ?_; rintro e w' ⟨rfl, rfl⟩)
        go_ret
        exact ⟨ret_bool HN.out.symm, rfl⟩
      · have HT := Lib.hid (all_take octB s k hlt)
        have HB := Lib.hid hb
        go_wp2_with (go_at_call 87; rw [HX.out]; refine (roctet_any _ _ b1 b2).mono ?_; rintro e w' ⟨rfl, rfl⟩)
        go_round
        case rel => exact ⟨k + 1, by omega, by go_num, Lib.hid (by rw [HT.out, HA.out, HB.out]; rfl)⟩
        case measure => simp [intOf]; omega
    · have HY := Lib.hid (all_yes octB s k (by omega) HA.out)
      go_wp2_with fail
      go_ret
      exact ⟨ret_bool HY.out.symm, rfl⟩

set_option maxRecDepth 100000 in
theorem rplain_any (s : ByteArray) (w : World) (hs : s.size ≤ 9223372036854775807) : Calls Tryz.prog 85 #[.string s] w fun e w' => e = .returned (.bool (allB plainB s)) ∧ w = w' := by
  go_enter Tryz.func85, Tryz.ntmps85
  go_wp2_with fail
  go_loop [3] (fun i => ∃ k : Nat, k ≤ s.size ∧ i = .int .i64 k ∧ Hid (((bs s).take k).all (fun c => plainB (c.toNat : Int)) = true)) (fun i => s.size - (intOf i).toNat)
  case atStart => exact ⟨0, Nat.zero_le _, rfl, Lib.hid (by simp)⟩
  case round =>
    obtain ⟨k, hk, rfl, HA⟩ := hrel
    by_cases hlt : k < s.size
    · have HX := Lib.hid (at_get s k hlt)
      have hp : ((s[k]).toNat : Int) < 33 ∨ (33 ≤ ((s[k]).toNat : Int) ∧ 126 < ((s[k]).toNat : Int)) ∨ (33 ≤ ((s[k]).toNat : Int) ∧ ((s[k]).toNat : Int) ≤ 126 ∧ (((s[k]).toNat : Int) == 59) = true) ∨ (33 ≤ ((s[k]).toNat : Int) ∧ ((s[k]).toNat : Int) ≤ 126 ∧ (((s[k]).toNat : Int) == 59) = false) := by
        cases h : (((s[k]).toNat : Int) == 59) <;> simp <;> omega
      rcases hp with h | ⟨h, h'⟩ | ⟨h, h', h3⟩ | ⟨h, h', h3⟩
      case inl | inr.inl =>
        have HN := Lib.hid (all_no plainB s k hlt (by rw [← HX.out]; unfold plainB wi; simp; omega))
        go_wp2_with fail
        go_ret
        exact ⟨ret_bool HN.out.symm, rfl⟩
      case inr.inr.inl =>
        have HN := Lib.hid (all_no plainB s k hlt (by rw [← HX.out]; unfold plainB; rw [h3]; simp))
        go_wp2_with fail
        go_ret
        exact ⟨ret_bool HN.out.symm, rfl⟩
      case inr.inr.inr =>
        have HT := Lib.hid (all_take plainB s k hlt)
        have HB := Lib.hid (show plainB (at_ s k) = true by rw [← HX.out]; unfold plainB wi; rw [h3]; simp; omega)
        go_wp2_with fail
        go_round
        case rel => exact ⟨k + 1, by omega, by go_num, Lib.hid (by rw [HT.out, HA.out, HB.out]; rfl)⟩
        case measure => simp [intOf]; omega
    · have HY := Lib.hid (all_yes plainB s k (by omega) HA.out)
      go_wp2_with fail
      go_ret
      exact ⟨ret_bool HY.out.symm, rfl⟩
end Go.Proofs.YtngamlikhgilhaaGreatDoor
/- Small letters: the program's and the reference's functions hand back the same text. -/
namespace Go.Proofs.YtngamlikhgilhaaGreatDoor
open Go.RowKit

/-- A small letter. -/
def low (c : UInt8) : UInt8 := if 65 ≤ c.toNat ∧ c.toNat ≤ 90 then c + 32 else c
def lowS (s : ByteArray) : ByteArray := mk ((bs s).map low)
theorem low_in (c : UInt8) (h1 : 65 ≤ c.toNat) (h2 : c.toNat ≤ 90) : ((low c).toNat : Int) = (c.toNat : Int) + 32 := by
  unfold low
  rw [if_pos ⟨h1, h2⟩, UInt8.toNat_add]
  have : (32 : UInt8).toNat = 32 := rfl
  omega
theorem low_out (c : UInt8) (h : ¬(65 ≤ c.toNat ∧ c.toNat ≤ 90)) : low c = c := if_neg h
theorem low_low (c : UInt8) : low (low c) = low c := by
  by_cases h : 65 ≤ c.toNat ∧ c.toNat ≤ 90
  · have := low_in c h.1 h.2
    exact low_out _ (by omega)
  · rw [low_out c h, low_out c h]

/-- A row of bytes in one block of the call's own. -/
def LRow (w : World) (N : Nat) (l : List UInt8) : Prop := ∀ j (h : j < l.length), w.cell? ⟨N, j, none⟩ = some (.int .u8 (l[j].toNat : Int)) ∧ w.frozen? ⟨N, j, none⟩ = false
theorem LRow.set {w : World} {N : Nat} {l : List UInt8} (h : LRow w N l) (k : Nat) (hk : k < l.length) (v : UInt8) : LRow (w.setCell ⟨N, k, none⟩ (.int .u8 (v.toNat : Int))) N (l.set k v) := by
  intro j hj
  rw [List.length_set] at hj
  obtain ⟨h1, h2⟩ := h j hj
  refine ⟨?_, ?_⟩
  · by_cases hjk : k = j
    · subst hjk
      rw [World.cell?_setCell_same' w _ _ (by rw [(h k hk).1]; rfl)]
      simp
    · rw [World.cell?_setCell_other _ _ _ _ (by intro e; injection e with _ e2; exact hjk e2), h1]
      simp [hjk]
  · rw [World.frozen?_setCell]
    exact h2
theorem conv_there (w : World) (s : ByteArray) : (convert 9 57 (.string s)).run Tryz.prog w = .ok (.slice (some ⟨w.heap.size, 0, none⟩) s.size (grownCap w s.size 0 5)) (Lib.bytesWorld w 5 s) :=
  Lib.run_convert_string_bytes w 9 57 5 s Tryz.underlying9 Tryz.underlying57 Tryz.underlying5
theorem row_there (w : World) (s : ByteArray) (e : TypeId) : LRow (Lib.bytesWorld w e s) w.heap.size (bs s) := by
  intro j hj
  have hj' : j < s.size := by rw [size_bs]; exact hj
  refine ⟨?_, ?_⟩
  · rw [Lib.bytesWorld_cell w e s j hj']
    have h' : j < s.data.toList.length := hj
    rw [List.getD_eq_getElem?_getD, List.getElem?_eq_getElem h']
    rfl
  · have h2 : j < (Lib.bytesCells w e s).size := by
      unfold Lib.bytesCells
      rw [Array.size_append, Array.size_map]
      have : s.data.size = s.size := rfl
      omega
    simp only [World.frozen?, Lib.bytesWorld_at_new]
    simp
    omega
theorem below_there (w : World) (s : ByteArray) (e : TypeId) : Below w.heap.size w (Lib.bytesWorld w e s) :=
  ⟨rfl, rfl, rfl, by rw [Lib.bytesWorld_size]; omega, fun k hk => Lib.bytesWorld_at_old w e s k hk⟩
theorem conv_back (w : World) (N n cap : Nat) (l : List UInt8) (hl : l.length = n) (h : LRow w N l) : (convert 57 9 (.slice (some ⟨N, 0, none⟩) n cap)).run Tryz.prog w = .ok (.string (mk l)) w := by
  subst hl
  exact run_convert_bytes_back w 57 9 5 ⟨N, 0, none⟩ cap l Tryz.underlying57 Tryz.underlying5 Tryz.underlying9 (fun j hj => by
    rw [Go.WideShapes.add_plain, Nat.zero_add]
    exact (h j hj).1)

/-- The row behind k rounds. -/
def lowTo (l : List UInt8) (k : Nat) : List UInt8 := (l.take k).map low ++ l.drop k
theorem lowTo_len (l : List UInt8) (k : Nat) : (lowTo l k).length = l.length := by simp [lowTo]; omega
theorem lowTo_get (l : List UInt8) (k : Nat) (hk : k < l.length) : (lowTo l k)[k]'(by rw [lowTo_len]; exact hk) = l[k] := by
  unfold lowTo
  rw [List.getElem_append_right (by simp; omega)]
  simp [Nat.min_eq_left (Nat.le_of_lt hk)]
theorem lowTo_succ (l : List UInt8) (k : Nat) (hk : k < l.length) : (lowTo l k).set k (low l[k]) = lowTo l (k + 1) := by
  unfold lowTo
  rw [List.set_append_right _ _ (by simp; omega), List.take_succ_eq_append_getElem hk, List.map_append, List.append_assoc]
  congr 1
  have hd := List.drop_eq_getElem_cons hk
  simp only [List.length_map, List.length_take, Nat.min_eq_left (Nat.le_of_lt hk), Nat.sub_self]
  rw [hd]
  rfl
theorem lowTo_same (l : List UInt8) (k : Nat) (hk : k < l.length) (h : low l[k] = l[k]) : lowTo l (k + 1) = lowTo l k := by
  have e : (lowTo l k).set k (lowTo l k)[k]! = lowTo l k := by
    rw [getElem!_pos _ k (by rw [lowTo_len]; exact hk)]
    exact List.set_getElem_self _
  rw [getElem!_pos _ k (by rw [lowTo_len]; exact hk), lowTo_get l k hk] at e
  rw [← lowTo_succ l k hk, h]
  exact e
theorem lowTo_all (l : List UInt8) : lowTo l l.length = l.map low := by simp [lowTo]

set_option maxRecDepth 100000 in
theorem lower_any (s : ByteArray) (w : World) (hs : s.size ≤ 9223372036854775807) : Calls Tryz.prog 19 #[.string s] w fun e w' => e = .returned (.string (lowS s)) ∧ Below w.heap.size w w' := by
  have hcv := conv_there w s
  have hr0 := row_there w s 5
  have hb0 := below_there w s 5
  obtain ⟨C, hC⟩ : ∃ C, C = grownCap w s.size 0 5 := ⟨_, rfl⟩
  obtain ⟨W, hW⟩ : ∃ W, W = Lib.bytesWorld w 5 s := ⟨_, rfl⟩
  rw [← hW] at hcv hr0 hb0
  rw [← hC] at hcv
  have HR0 := Lib.hid hr0
  have HSZ := Lib.hid (size_bs s)
  clear hr0 hW hC
  go_enter Tryz.func19, Tryz.ntmps19
  go_wp2_with fail
  go_loopw [9] (fun i wr => ∃ k : Nat, k ≤ s.size ∧ i = .int .i64 k ∧ Hid (LRow wr w.heap.size (lowTo (bs s) k)) ∧ Below w.heap.size w wr) (fun i _ => s.size - (intOf i).toNat)
  case atStart => exact ⟨0, Nat.zero_le _, rfl, Lib.hid (by simpa [lowTo] using HR0.out), hb0⟩
  case round =>
    clear hcv HR0 hb0
    obtain ⟨k, hk, rfl, HA, hb⟩ := hrel
    by_cases hlt : k < s.size
    · have hl : k < (bs s).length := by rw [← HSZ.out]; exact hlt
      have hl2 : k < (lowTo (bs s) k).length := by rw [lowTo_len]; exact hl
      obtain ⟨hx, hf⟩ := HA.out k hl2
      rw [lowTo_get _ _ hl] at hx
      have HX := Lib.hid hx
      by_cases hc : 65 ≤ (bs s)[k].toNat ∧ (bs s)[k].toNat ≤ 90
      · have hw1 : wi ((bs s)[k].toNat : Int) 65 90 = true := wi_iff.2 (by omega)
        have HLW := Lib.hid (low_in _ hc.1 hc.2)
        obtain ⟨c1, c2⟩ := hc
        have c3 : ((bs s)[k].toNat : Int) ≤ 90 := by omega
        have HS := Lib.hid (HA.out.set k hl2 (low (bs s)[k]))
        have HE := Lib.hid (lowTo_succ _ _ hl)
        generalize hcc : ((bs s)[k].toNat : Int) = c at *
        clear hl2
        go_wp2_with (go_at_call 46; refine (within_any _ _ _ _).mono ?_; rintro e w' ⟨rfl, rfl⟩)
        go_roundw
        case rel => exact ⟨k + 1, by omega, by go_num, Lib.hid (by have h9 := HS.out; rw [HLW.out, HE.out] at h9; exact h9), hb.setCell (Nat.le_refl _) _⟩
        case measure => simp [intOf]; omega
      · have hw1 : wi ((bs s)[k].toNat : Int) 65 90 = false := by
          cases h : wi ((bs s)[k].toNat : Int) 65 90
          · rfl
          · have := wi_iff.1 h; omega
        have HE := Lib.hid (lowTo_same _ _ hl (low_out _ hc))
        generalize hcc : ((bs s)[k].toNat : Int) = c at *
        clear hl2 hc
        go_wp2_with (go_at_call 46; refine (within_any _ _ _ _).mono ?_; rintro e w' ⟨rfl, rfl⟩)
        go_roundw
        case rel => exact ⟨k + 1, by omega, by go_num, Lib.hid (by rw [HE.out]; exact HA.out), hb⟩
        case measure => simp [intOf]; omega
    · have hbk := conv_back wr w.heap.size s.size C (lowTo (bs s) k) (by rw [lowTo_len]; exact HSZ.out.symm) HA.out
      have HF := Lib.hid (show mk (lowTo (bs s) k) = lowS s by
        rw [show k = (bs s).length by have := HSZ.out; omega, lowTo_all]
        rfl)
      rw [HF.out] at hbk
      go_wp2_with fail
      go_ret
      exact ⟨rfl, hb⟩

set_option maxRecDepth 100000 in
theorem rlower_any (s : ByteArray) (w : World) (hs : s.size ≤ 9223372036854775807) : Calls Tryz.prog 26 #[.string s] w fun e w' => e = .returned (.string (lowS s)) ∧ Below w.heap.size w w' := by
  have hcv := conv_there w s
  have hr0 := row_there w s 5
  have hb0 := below_there w s 5
  obtain ⟨C, hC⟩ : ∃ C, C = grownCap w s.size 0 5 := ⟨_, rfl⟩
  obtain ⟨W, hW⟩ : ∃ W, W = Lib.bytesWorld w 5 s := ⟨_, rfl⟩
  rw [← hW] at hcv hr0 hb0
  rw [← hC] at hcv
  have HR0 := Lib.hid hr0
  have HSZ := Lib.hid (size_bs s)
  clear hr0 hW hC
  go_enter Tryz.func26, Tryz.ntmps26
  go_wp2_with fail
  go_loopw [4] (fun i wr => ∃ k : Nat, k ≤ s.size ∧ i = .int .i64 k ∧ Hid (LRow wr w.heap.size (lowTo (bs s) k)) ∧ Below w.heap.size w wr) (fun i _ => s.size - (intOf i).toNat)
  case atStart => exact ⟨0, Nat.zero_le _, rfl, Lib.hid (by simpa [lowTo] using HR0.out), hb0⟩
  case round =>
    clear hcv HR0 hb0
    obtain ⟨k, hk, rfl, HA, hb⟩ := hrel
    by_cases hlt : k < s.size
    · have hl : k < (bs s).length := by rw [← HSZ.out]; exact hlt
      have hl2 : k < (lowTo (bs s) k).length := by rw [lowTo_len]; exact hl
      obtain ⟨hx, hf⟩ := HA.out k hl2
      rw [lowTo_get _ _ hl] at hx
      have h3 : (65 ≤ (bs s)[k].toNat ∧ (bs s)[k].toNat ≤ 90) ∨ (65 ≤ (bs s)[k].toNat ∧ 90 < (bs s)[k].toNat) ∨ (bs s)[k].toNat < 65 := by omega
      rcases h3 with hc | hc | hc
      · have HLW := Lib.hid (low_in _ hc.1 hc.2)
        obtain ⟨c1, c2⟩ := hc
        have c3 : ((bs s)[k].toNat : Int) ≤ 90 := by omega
        have c4 : 65 ≤ ((bs s)[k].toNat : Int) := by omega
        have HS := Lib.hid (HA.out.set k hl2 (low (bs s)[k]))
        have HE := Lib.hid (lowTo_succ _ _ hl)
        generalize hcc : ((bs s)[k].toNat : Int) = c at *
        clear hl2
        go_wp2_with fail
        go_roundw
        case rel => exact ⟨k + 1, by omega, by go_num, Lib.hid (by have h9 := HS.out; rw [HLW.out, HE.out] at h9; exact h9), hb.setCell (Nat.le_refl _) _⟩
        case measure => simp [intOf]; omega
      all_goals
        have HE := Lib.hid (lowTo_same _ _ hl (low_out _ (by omega)))
        have c5 : ((bs s)[k].toNat : Int) < 65 ∨ (65 ≤ ((bs s)[k].toNat : Int) ∧ 90 < ((bs s)[k].toNat : Int)) := by omega
        generalize hcc : ((bs s)[k].toNat : Int) = c at *
        clear hl2 hc
        rcases c5 with c5 | ⟨c5, c6⟩
        all_goals
          go_wp2_with fail
          go_roundw
          case rel => exact ⟨k + 1, by omega, by go_num, Lib.hid (by rw [HE.out]; exact HA.out), hb⟩
          case measure => simp [intOf]; omega
    · have hbk := conv_back wr w.heap.size s.size C (lowTo (bs s) k) (by rw [lowTo_len]; exact HSZ.out.symm) HA.out
      have HF := Lib.hid (show mk (lowTo (bs s) k) = lowS s by
        rw [show k = (bs s).length by have := HSZ.out; omega, lowTo_all]
        rfl)
      rw [HF.out] at hbk
      go_wp2_with fail
      go_ret
      exact ⟨rfl, hb⟩
end Go.Proofs.YtngamlikhgilhaaGreatDoor
/- Taking bytes off both ends of a list: plain facts. -/
namespace Go.Proofs.YtngamlikhgilhaaGreatDoor

/-- Off the end. -/
def rdw (p : UInt8 → Bool) (l : List UInt8) : List UInt8 := (l.reverse.dropWhile p).reverse
theorem rdw_nil (p : UInt8 → Bool) : rdw p [] = [] := rfl
theorem rdw_snoc_yes (p : UInt8 → Bool) (l : List UInt8) (x : UInt8) (h : p x = true) : rdw p (l ++ [x]) = rdw p l := by
  simp [rdw, h]
theorem rdw_snoc_no (p : UInt8 → Bool) (l : List UInt8) (x : UInt8) (h : p x = false) : rdw p (l ++ [x]) = l ++ [x] := by
  simp [rdw, h]
theorem rdw_cons (p : UInt8 → Bool) (x : UInt8) (l : List UInt8) : rdw p (x :: l) = if rdw p l = [] then (if p x then [] else [x]) else x :: rdw p l := by
  unfold rdw
  rw [List.reverse_cons, List.dropWhile_append]
  cases h : (List.dropWhile p l.reverse)
  · simp [List.dropWhile_cons]
    cases p x <;> simp
  · simp
theorem dw_rdw (p : UInt8 → Bool) (l : List UInt8) : (rdw p l).dropWhile p = rdw p (l.dropWhile p) := by
  induction l with
  | nil => rfl
  | cons x l ih =>
    rw [rdw_cons]
    cases hx : p x
    · rw [List.dropWhile_cons_of_neg (by simp [hx]), rdw_cons]
      by_cases h : rdw p l = []
      · simp [h, hx]
      · simp [h, hx]
    · rw [List.dropWhile_cons_of_pos hx, ← ih]
      by_cases h : rdw p l = []
      · simp [h]
      · simp [h, hx]
theorem rdw_append_yes (p : UInt8 → Bool) (l m : List UInt8) (h : ∀ x ∈ m, p x = true) : rdw p (l ++ m) = rdw p l := by
  unfold rdw
  rw [List.reverse_append, List.dropWhile_append_of_pos (by simpa using h)]
theorem dw_append_yes (p : UInt8 → Bool) (l m : List UInt8) (h : ∀ x ∈ l, p x = true) : (l ++ m).dropWhile p = m.dropWhile p := List.dropWhile_append_of_pos h
theorem dw_dw (p : UInt8 → Bool) (l : List UInt8) : (l.dropWhile p).dropWhile p = l.dropWhile p := by
  induction l with
  | nil => rfl
  | cons x l ih =>
    cases hx : p x
    · rw [List.dropWhile_cons_of_neg (by simp [hx]), List.dropWhile_cons_of_neg (by simp [hx])]
    · rw [List.dropWhile_cons_of_pos hx, ih]
theorem rdw_rdw (p : UInt8 → Bool) (l : List UInt8) : rdw p (rdw p l) = rdw p l := by
  unfold rdw
  rw [List.reverse_reverse, dw_dw]

/-- A blank. -/
def blk (c : UInt8) : Bool := c == 32 || c == 9
/-- A text without the blanks at its ends. -/
def trimL (l : List UInt8) : List UInt8 := (rdw blk l).dropWhile blk
def trimS (s : ByteArray) : ByteArray := mk (trimL (bs s))
theorem trimL_trimL (l : List UInt8) : trimL (trimL l) = trimL l := by
  unfold trimL
  rw [← dw_rdw, rdw_rdw, dw_dw]
theorem trimL_more (a l b : List UInt8) (ha : ∀ x ∈ a, blk x = true) (hb : ∀ x ∈ b, blk x = true) : trimL (a ++ l ++ b) = trimL l := by
  unfold trimL
  rw [rdw_append_yes _ _ _ hb, dw_rdw, dw_append_yes _ _ _ ha, ← dw_rdw]
theorem trimL_len (l : List UInt8) : (trimL l).length ≤ l.length := by
  unfold trimL rdw
  have h1 := (List.dropWhile_sublist (l := (l.reverse.dropWhile blk).reverse) blk).length_le
  have h2 := (List.dropWhile_sublist (l := l.reverse) blk).length_le
  simp at h1 h2
  omega
end Go.Proofs.YtngamlikhgilhaaGreatDoor
