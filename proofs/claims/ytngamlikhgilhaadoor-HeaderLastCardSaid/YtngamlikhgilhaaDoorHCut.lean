/- Contracts of the function Cut of package ascii and of its reference. -/
import Derived.Test.YtngamlikhgilhaaDoorHTrim
namespace Go.Proofs.YtngamlikhgilhaaDoor
open Go.RowKit

theorem ix_any (s : ByteArray) (c : UInt8) (w : World) : Calls Tryd.prog 21 #[.string s, .int .u8 (c.toNat : Int)] w fun e w' => e = .returned (.int .i64 (Lib.indexByte (bs s) c)) ∧ w = w' := by
  refine (Any.strings_IndexByte Tryd.lays137 s (c.toNat : Int) w).mono ?_
  rintro e w' ⟨rfl, rfl⟩
  rw [show (c.toNat : Int).toNat.toUInt8 = c by rw [Int.toNat_natCast]; exact UInt8.ofNat_toNat]
  exact ⟨rfl, rfl⟩
/-- Where a byte stands first. -/
def FirstAtC (l : List UInt8) (c : UInt8) (k : Nat) : Prop := l[k]? = some c ∧ ∀ j, j < k → l[j]? ≠ some c
theorem first_or (l : List UInt8) (c : UInt8) : (∀ k : Nat, l[k]? ≠ some c) ∨ ∃ k, FirstAtC l c k := by
  have h := Lib.indexByte_ge l c
  by_cases h1 : Lib.indexByte l c = -1
  · exact .inl (Lib.indexByte_none h1)
  · obtain ⟨k, hk⟩ := Int.eq_ofNat_of_zero_le (show 0 ≤ Lib.indexByte l c by omega)
    exact .inr ⟨k, Lib.indexByte_some hk⟩
theorem ix_noneC {l : List UInt8} {c : UInt8} (h : ∀ k : Nat, l[k]? ≠ some c) : Lib.indexByte l c = -1 := by
  have h0 := Lib.indexByte_ge l c
  by_cases h1 : Lib.indexByte l c = -1
  · exact h1
  · obtain ⟨k, hk⟩ := Int.eq_ofNat_of_zero_le (show 0 ≤ Lib.indexByte l c by omega)
    exact absurd (Lib.indexByte_some hk).1 (h k)
theorem ix_some {l : List UInt8} {c : UInt8} {k : Nat} (h : FirstAtC l c k) : Lib.indexByte l c = (k : Int) := by
  have h0 := Lib.indexByte_ge l c
  by_cases h1 : Lib.indexByte l c = -1
  · exact absurd h.1 (Lib.indexByte_none h1 k)
  · obtain ⟨j, hj⟩ := Int.eq_ofNat_of_zero_le (show 0 ≤ Lib.indexByte l c by omega)
    obtain ⟨h2, h3⟩ := Lib.indexByte_some hj
    have : j = k := by
      rcases Nat.lt_trichotomy j k with h4 | h4 | h4
      · exact absurd h2 (h.2 j h4)
      · exact h4
      · exact absurd h.1 (h3 k h4)
    rw [hj, this]
theorem first_lt {s : ByteArray} {c : UInt8} {k : Nat} (h : FirstAtC (bs s) c k) : k < s.size := by
  rw [size_bs]
  exact (List.getElem?_eq_some_iff.1 h.1).1

theorem cut_none (s : ByteArray) (c : UInt8) (w : World) (h : ∀ k : Nat, (bs s)[k]? ≠ some c) :
    Calls Tryd.prog 9 #[.string s, .int .u8 (c.toNat : Int)] w fun e w' => e = .returned (.tuple #[.string s, .string ByteArray.empty, .bool false]) ∧ w = w' := by
  have HI := Lib.hid (ix_noneC h)
  go_enter Tryd.func9, Tryd.ntmps9
  go_wp2_with fail
  refine (ix_any s c _).mono ?_
  rintro e w' ⟨rfl, rfl⟩
  rw [HI.out]
  go_wp2_with fail
  go_ret3
  exact ⟨rfl, rfl⟩
theorem cut_some (s : ByteArray) (c : UInt8) (k : Nat) (w : World) (hs : s.size ≤ 9223372036854775807) (h : FirstAtC (bs s) c k) :
    Calls Tryd.prog 9 #[.string s, .int .u8 (c.toNat : Int)] w fun e w' => e = .returned (.tuple #[.string (s.extract 0 k), .string (s.extract (k + 1) s.size), .bool true]) ∧ ∃ n, w' = w.drewN n := by
  have HI := Lib.hid (ix_some h)
  have hk := first_lt h
  clear h
  go_enter Tryd.func9, Tryd.ntmps9
  go_wp2_with fail
  refine (ix_any s c _).mono ?_
  rintro e w' ⟨rfl, rfl⟩
  rw [HI.out]
  go_wp2_with fail
  go_quiet (fail)
  go_wp2_with fail
  go_ret3
  exact ⟨rfl, _, rfl⟩

end Go.Proofs.YtngamlikhgilhaaDoor
