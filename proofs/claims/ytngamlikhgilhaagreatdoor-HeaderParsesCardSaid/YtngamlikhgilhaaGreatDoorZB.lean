/- Contracts of the functions Trim and Cut of package ascii and of its reference. -/
import Derived.Test.YtngamlikhgilhaaGreatDoorZA
import Derived.Test.YtngamlikhgilhaaGreatDoorShelf
import Derived.Lib.IndexLaws
namespace Go.Proofs.YtngamlikhgilhaaGreatDoor
open Go.RowKit

theorem lib_trim (l : List UInt8) : Lib.trimS l [32, 9] = trimL l := by
  have hp : (fun x => ([32, 9] : List UInt8).contains x) = blk := by
    funext x
    rw [Bool.eq_iff_iff]
    simp [blk]
  unfold Lib.trimS Lib.trimLeftS Lib.trimRightS trimL rdw
  rw [hp]
theorem libTrim_any (s : ByteArray) (w : World) (hs : s.size ≤ 9223372036854775807) : Calls Tryz.prog 57 #[.string s, .string ⟨#[32, 9]⟩] w fun e w' => e = .returned (.string (trimS s)) ∧ Below w.heap.size w w' := by
  refine (Any.strings_Trim_laid Tryz.lays160 (by kernel_rfl) s ⟨#[32, 9]⟩ w hs (by decide) (ascii_of_all (by decide))).mono ?_
  rintro e w' ⟨rfl, hb⟩
  exact ⟨by rw [show (⟨#[32, 9]⟩ : ByteArray).data.toList = [32, 9] from rfl, lib_trim]; rfl, hb⟩
theorem trim_any (s : ByteArray) (w : World) (hs : s.size ≤ 9223372036854775807) : Calls Tryz.prog 45 #[.string s] w fun e w' => e = .returned (.string (trimS s)) ∧ Below w.heap.size w w' := by
  go_enter Tryz.func45, Tryz.ntmps45
  go_wp2_with fail
  refine (libTrim_any s _ hs).mono ?_
  rintro e w' ⟨rfl, hb⟩
  go_wp2_with fail
  go_ret
  exact ⟨rfl, hb⟩

theorem rblank_any (c : Int) (w : World) : Calls Tryz.prog 82 #[.int .u8 c] w fun e w' => e = .returned (.bool (c == 9 || c == 32)) ∧ w = w' := by
  cases h1 : (c == 9) <;> cases h2 : (c == 32)
  all_goals
    go_enter Tryz.func82, Tryz.ntmps82
    go_wp2
    go_ret
    exact ⟨rfl, rfl⟩
theorem blk_at (c : UInt8) : (((c.toNat : Int) == 9) || ((c.toNat : Int) == 32)) = blk c := by
  unfold blk
  rw [Bool.eq_iff_iff]
  simp only [Bool.or_eq_true, beq_iff_eq, ← UInt8.toNat_inj]
  have h1 : (9 : UInt8).toNat = 9 := rfl
  have h2 : (32 : UInt8).toNat = 32 := rfl
  omega
theorem rblank_u (c : UInt8) (w : World) : Calls Tryz.prog 82 #[.int .u8 (c.toNat : Int)] w fun e w' => e = .returned (.bool (blk c)) ∧ w = w' := by
  refine (rblank_any _ w).mono ?_
  rintro e w' ⟨rfl, rfl⟩
  rw [blk_at]
  exact ⟨rfl, rfl⟩
theorem get_bsT (t : ByteArray) (k : Nat) (h : k < t.size) : t[k] = (bs t)[k]'(by rw [← size_bs]; exact h) := rfl
theorem drop_one (t : ByteArray) (h : 0 < t.size) (hb : blk (t[0]'h) = true) : (bs (t.extract 1 t.size)).dropWhile blk = (bs t).dropWhile blk := by
  rw [bs_extract, List.take_of_length_le (by rw [← size_bs]; exact Nat.le_refl _)]
  have h' : 0 < (bs t).length := by rw [← size_bs]; exact h
  rw [get_bsT t 0 h] at hb
  cases hl : bs t with
  | nil => rw [hl] at h'; simp at h'
  | cons x r =>
    simp only [hl, List.getElem_cons_zero] at hb
    simp [hb]
theorem drop_done (t : ByteArray) (h : 0 < t.size) (hb : blk (t[0]'h) = false) : (bs t).dropWhile blk = bs t := by
  have h' : 0 < (bs t).length := by rw [← size_bs]; exact h
  rw [get_bsT t 0 h] at hb
  cases hl : bs t with
  | nil => rfl
  | cons x r =>
    simp only [hl, List.getElem_cons_zero] at hb
    rw [List.dropWhile_cons_of_neg (by simp [hb])]
theorem last_one (t : ByteArray) (h : t.size - 1 < t.size) (hb : blk (t[t.size - 1]'h) = true) : rdw blk (bs (t.extract 0 (t.size - 1))) = rdw blk (bs t) := by
  rw [bs_extract, List.drop_zero]
  rw [get_bsT t _ h] at hb
  have h' : (bs t).length - 1 < (bs t).length := by rw [← size_bs]; exact h
  have e : bs t = (bs t).take ((bs t).length - 1) ++ [(bs t)[(bs t).length - 1]] := by
    have := List.take_succ_eq_append_getElem h'
    rw [← this, List.take_of_length_le (by omega)]
  have hs := size_bs t
  simp only [hs] at hb ⊢
  conv => rhs; rw [e]
  rw [rdw_snoc_yes _ _ _ hb]
theorem last_done (t : ByteArray) (h : t.size - 1 < t.size) (hb : blk (t[t.size - 1]'h) = false) : rdw blk (bs t) = bs t := by
  rw [get_bsT t _ h] at hb
  have h' : (bs t).length - 1 < (bs t).length := by rw [← size_bs]; exact h
  have e : bs t = (bs t).take ((bs t).length - 1) ++ [(bs t)[(bs t).length - 1]] := by
    have := List.take_succ_eq_append_getElem h'
    rw [← this, List.take_of_length_le (by omega)]
  have hs := size_bs t
  simp only [hs] at hb
  rw [e, rdw_snoc_no _ _ _ hb]
theorem size_zero {t : ByteArray} (h : t.size = 0) : bs t = [] := by
  rw [size_bs] at h
  exact List.length_eq_zero_iff.1 h

/-- How long a text in a slot is. -/
def ssz : Value → Nat
  | .string t => t.size
  | _ => 0
theorem trim_fin {s t u : ByteArray} (h1 : bs t = (bs s).dropWhile blk) (h2 : rdw blk (bs u) = rdw blk (bs t)) (h3 : rdw blk (bs u) = bs u) : trimS s = u := by
  unfold trimS trimL
  rw [dw_rdw, ← h1, ← h2, h3, mk_bs]

set_option maxRecDepth 100000 in
theorem rtrim_any (s : ByteArray) (w : World) (hs : s.size ≤ 9223372036854775807) : Calls Tryz.prog 39 #[.string s] w fun e w' => e = .returned (.string (trimS s)) ∧ w = w' := by
  go_enter Tryz.func39, Tryz.ntmps39
  go_wp2_with fail
  go_loop [0] (fun v => ∃ t : ByteArray, v = .string t ∧ t.size ≤ s.size ∧ Hid ((bs t).dropWhile blk = (bs s).dropWhile blk)) (fun v => ssz v)
  case atStart => exact ⟨s, rfl, Nat.le_refl _, Lib.hid rfl⟩
  case round =>
    obtain ⟨t, rfl, hts, HT⟩ := hrel
    by_cases h0 : 0 < t.size
    · cases hb : blk (t[0]'h0)
      · have HD := Lib.hid (drop_done t h0 hb)
        go_wp2_with (go_at_call 82; refine (rblank_u _ _).mono ?_; rintro e w' ⟨rfl, rfl⟩)
        go_loop [0] (fun v => ∃ u : ByteArray, v = .string u ∧ u.size ≤ t.size ∧ Hid (rdw blk (bs u) = rdw blk (bs t))) (fun v => ssz v)
        case atStart => exact ⟨t, rfl, Nat.le_refl _, Lib.hid rfl⟩
        case round =>
          obtain ⟨u, rfl, hus, HU⟩ := hrel
          by_cases g0 : 0 < u.size
          · have g1 : u.size - 1 < u.size := by omega
            cases gb : blk (u[u.size - 1]'g1)
            · have HF := Lib.hid (trim_fin (HD.out ▸ HT.out) HU.out (last_done u g1 gb))
              go_wp2_with (go_at_call 82; refine (rblank_u _ _).mono ?_; rintro e w' ⟨rfl, rfl⟩)
              go_ret
              exact ⟨by rw [HF.out]; rfl, rfl⟩
            · have HL := Lib.hid (last_one u g1 gb)
              go_wp2_with (go_at_call 82; refine (rblank_u _ _).mono ?_; rintro e w' ⟨rfl, rfl⟩)
              go_round
              case rel => exact ⟨_, rfl, by simp; omega, Lib.hid (HL.out.trans HU.out)⟩
              case measure => simp [ssz]; omega
          · have HF := Lib.hid (trim_fin (HD.out ▸ HT.out) HU.out (by rw [size_zero (by omega)]; rfl))
            go_wp2_with fail
            go_ret
            exact ⟨by rw [HF.out]; rfl, rfl⟩
      · have HD := Lib.hid (drop_one t h0 hb)
        go_wp2_with (go_at_call 82; refine (rblank_u _ _).mono ?_; rintro e w' ⟨rfl, rfl⟩)
        go_round
        case rel => exact ⟨_, rfl, by simp; omega, Lib.hid (HD.out.trans HT.out)⟩
        case measure => simp [ssz]; omega
    · have HD := Lib.hid (show (bs t).dropWhile blk = bs t by rw [size_zero (by omega)]; rfl)
      go_wp2_with fail
      go_loop [0] (fun v => ∃ u : ByteArray, v = .string u ∧ u.size ≤ t.size ∧ Hid (rdw blk (bs u) = rdw blk (bs t))) (fun v => ssz v)
      case atStart => exact ⟨t, rfl, Nat.le_refl _, Lib.hid rfl⟩
      case round =>
        obtain ⟨u, rfl, hus, HU⟩ := hrel
        have HF := Lib.hid (trim_fin (HD.out ▸ HT.out) HU.out (by rw [size_zero (by omega)]; rfl))
        go_wp2_with fail
        go_ret
        exact ⟨by rw [HF.out]; rfl, rfl⟩
end Go.Proofs.YtngamlikhgilhaaGreatDoor
/- Contracts of the function Cut of package ascii and of its reference. -/
namespace Go.Proofs.YtngamlikhgilhaaGreatDoor
open Go.RowKit

theorem ix_any (s : ByteArray) (c : UInt8) (w : World) : Calls Tryz.prog 44 #[.string s, .int .u8 (c.toNat : Int)] w fun e w' => e = .returned (.int .i64 (Lib.indexByte (bs s) c)) ∧ w = w' := by
  refine (Any.strings_IndexByte Tryz.lays137 s (c.toNat : Int) w).mono ?_
  rintro e w' ⟨rfl, rfl⟩
  rw [show (c.toNat : Int).toNat.toUInt8 = c by rw [Int.toNat_natCast]; exact UInt8.ofNat_toNat]
  exact ⟨rfl, rfl⟩
/-- Where a byte stands first. -/
def FirstAtC (l : List UInt8) (c : UInt8) (k : Nat) : Prop := l[k]? = some c ∧ ∀ j, j < k → l[j]? ≠ some c
theorem first_or (l : List UInt8) (c : UInt8) : (∀ k : Nat, l[k]? ≠ some c) ∨ ∃ k, FirstAtC l c k := by
  have h := Lib.indexByte_ge l c
  by_cases h1 : Lib.indexByte l c = -1
  · exact .inl (Lib.indexByte_none h1)
  · obtain ⟨k, hk⟩ := Int.eq_ofNat_of_zero_le (show 0 ≤ Lib.indexByte l c by omega)
    exact .inr ⟨k, Lib.indexByte_some hk⟩
theorem ix_noneC {l : List UInt8} {c : UInt8} (h : ∀ k : Nat, l[k]? ≠ some c) : Lib.indexByte l c = -1 := by
  have h0 := Lib.indexByte_ge l c
  by_cases h1 : Lib.indexByte l c = -1
  · exact h1
  · obtain ⟨k, hk⟩ := Int.eq_ofNat_of_zero_le (show 0 ≤ Lib.indexByte l c by omega)
    exact absurd (Lib.indexByte_some hk).1 (h k)
theorem ix_some {l : List UInt8} {c : UInt8} {k : Nat} (h : FirstAtC l c k) : Lib.indexByte l c = (k : Int) := by
  have h0 := Lib.indexByte_ge l c
  by_cases h1 : Lib.indexByte l c = -1
  · exact absurd h.1 (Lib.indexByte_none h1 k)
  · obtain ⟨j, hj⟩ := Int.eq_ofNat_of_zero_le (show 0 ≤ Lib.indexByte l c by omega)
    obtain ⟨h2, h3⟩ := Lib.indexByte_some hj
    have : j = k := by
      rcases Nat.lt_trichotomy j k with h4 | h4 | h4
      · exact absurd h2 (h.2 j h4)
      · exact h4
      · exact absurd h.1 (h3 k h4)
    rw [hj, this]
theorem first_lt {s : ByteArray} {c : UInt8} {k : Nat} (h : FirstAtC (bs s) c k) : k < s.size := by
  rw [size_bs]
  exact (List.getElem?_eq_some_iff.1 h.1).1

theorem cut_none (s : ByteArray) (c : UInt8) (w : World) (h : ∀ k : Nat, (bs s)[k]? ≠ some c) :
    Calls Tryz.prog 16 #[.string s, .int .u8 (c.toNat : Int)] w fun e w' => e = .returned (.tuple #[.string s, .string ByteArray.empty, .bool false]) ∧ w = w' := by
  have HI := Lib.hid (ix_noneC h)
  go_enter Tryz.func16, Tryz.ntmps16
  go_wp2_with fail
  refine (ix_any s c _).mono ?_
  rintro e w' ⟨rfl, rfl⟩
  rw [HI.out]
  go_wp2_with fail
  go_ret3
  exact ⟨rfl, rfl⟩
theorem cut_some (s : ByteArray) (c : UInt8) (k : Nat) (w : World) (hs : s.size ≤ 9223372036854775807) (h : FirstAtC (bs s) c k) :
    Calls Tryz.prog 16 #[.string s, .int .u8 (c.toNat : Int)] w fun e w' => e = .returned (.tuple #[.string (s.extract 0 k), .string (s.extract (k + 1) s.size), .bool true]) ∧ ∃ n, w' = w.drewN n := by
  have HI := Lib.hid (ix_some h)
  have hk := first_lt h
  clear h
  go_enter Tryz.func16, Tryz.ntmps16
  go_wp2_with fail
  refine (ix_any s c _).mono ?_
  rintro e w' ⟨rfl, rfl⟩
  rw [HI.out]
  go_wp2_with fail
  go_quiet (fail)
  go_wp2_with fail
  go_ret3
  exact ⟨rfl, _, rfl⟩

theorem rcut_none (s : ByteArray) (c : UInt8) (w : World) (hs : s.size ≤ 9223372036854775807) (h : ∀ k : Nat, (bs s)[k]? ≠ some c) :
    Calls Tryz.prog 13 #[.string s, .int .u8 (c.toNat : Int)] w fun e w' => e = .returned (.tuple #[.string s, .string ByteArray.empty, .bool false]) ∧ w = w' := by
  have H := Lib.hid h
  clear h
  go_enter Tryz.func13, Tryz.ntmps13
  go_wp2_with fail
  go_loop [7] (fun i => ∃ k : Nat, k ≤ s.size ∧ i = .int .i64 k) (fun i => s.size - (intOf i).toNat)
  case atStart => exact ⟨0, Nat.zero_le _, rfl⟩
  case round =>
    obtain ⟨k, hk, rfl⟩ := hrel
    by_cases hlt : k < s.size
    · have hne : (((s[k]).toNat : Int) == (c.toNat : Int)) = false := by
        rw [beq_eq_false_iff_ne]
        intro e
        have h1 : (bs s)[k]? = some (s[k]) := by
          rw [get_bsT s k hlt, List.getElem?_eq_getElem]
        have h2 : s[k] = c := UInt8.toNat_inj.1 (by omega)
        rw [h2] at h1
        exact H.out k h1
      go_wp2_with fail
      go_round
      case rel => exact ⟨k + 1, by omega, by go_num⟩
      case measure => simp [intOf]; omega
    · go_wp2_with fail
      go_ret3
      exact ⟨rfl, rfl⟩
set_option maxRecDepth 100000 in
theorem rcut_some (s : ByteArray) (c : UInt8) (k : Nat) (w : World) (hs : s.size ≤ 9223372036854775807) (h : FirstAtC (bs s) c k) :
    Calls Tryz.prog 13 #[.string s, .int .u8 (c.toNat : Int)] w fun e w' => e = .returned (.tuple #[.string (s.extract 0 k), .string (s.extract (k + 1) s.size), .bool true]) ∧ ∃ n, w' = w.drewN n := by
  have H := Lib.hid h
  have hk := first_lt h
  clear h
  go_enter Tryz.func13, Tryz.ntmps13
  go_wp2_with fail
  go_loop [7] (fun i => ∃ j : Nat, j ≤ k ∧ i = .int .i64 j) (fun i => s.size - (intOf i).toNat)
  case atStart => exact ⟨0, Nat.zero_le _, rfl⟩
  case round =>
    obtain ⟨j, hj, rfl⟩ := hrel
    have hlt : j < s.size := by omega
    have h1 : (bs s)[j]? = some (s[j]) := by
      rw [get_bsT s j hlt, List.getElem?_eq_getElem]
    by_cases hjk : j < k
    · have hne : (((s[j]).toNat : Int) == (c.toNat : Int)) = false := by
        rw [beq_eq_false_iff_ne]
        intro e
        have h2 : s[j] = c := UInt8.toNat_inj.1 (by omega)
        rw [h2] at h1
        exact H.out.2 j hjk h1
      clear h1
      go_wp2_with fail
      go_round
      case rel => exact ⟨j + 1, by omega, by go_num⟩
      case measure => simp [intOf]; omega
    · obtain rfl : j = k := by omega
      have hne : (((s[j]).toNat : Int) == (c.toNat : Int)) = true := by
        rw [H.out.1] at h1
        injection h1 with h1
        rw [← h1]
        simp
      clear h1 hjk
      go_wp2_with fail
      go_quiet (fail)
      go_wp2_with fail
      go_ret3
      exact ⟨rfl, _, rfl⟩
end Go.Proofs.YtngamlikhgilhaaGreatDoor
