/- Contract: Uniso. -/
import Derived.Test.YtngamlikhgilhaaDoorDateJ
namespace Go.Proofs.YtngamlikhgilhaaDoor
open Go.RowKit

theorem isIso_nums {s : ByteArray} {t : Int} (h : IsIso s t) : vclk (numAt s 0 4) (numAt s 5 7) (numAt s 8 10) (numAt s 11 13) (numAt s 14 16) (numAt s 17 19) ∧ secs (numAt s 0 4) (numAt s 5 7) (numAt s 8 10) (numAt s 11 13) (numAt s 14 16) (numAt s 17 19) = t := by
  obtain ⟨-, -, y, m, d, hh, n, sc, hc, hx⟩ := h
  obtain ⟨e0, e1, e2, e3, e4, e5⟩ := iso_nums hc.y1 (by have := hc.m1; omega) hc.d1 hc.h1 hc.n1 hc.s1 hx
  rw [e0, e1, e2, e3, e4, e5]
  exact ⟨hc.v, hc.t⟩
theorem isIso_size {s : ByteArray} {t : Int} (h : IsIso s t) : s.size = 20 := by
  obtain ⟨-, -, y, m, d, hh, n, sc, hc, hx⟩ := h
  rw [hx, isoS_size]
def UnV (s : ByteArray) (v : Value) : Prop := (∃ t, IsIso s t ∧ v = .tuple #[.int .i64 t, .bool true]) ∨ ((∀ t, ¬ IsIso s t) ∧ v = .tuple #[.int .i64 0, .bool false])
theorem UnV.size {s : ByteArray} (h : s.size ≠ 20) : UnV s (.tuple #[.int .i64 0, .bool false]) := .inr ⟨fun _ ht => h (isIso_size ht), rfl⟩
theorem UnV.nov {s : ByteArray} (h : ¬ vclk (numAt s 0 4) (numAt s 5 7) (numAt s 8 10) (numAt s 11 13) (numAt s 14 16) (numAt s 17 19)) : UnV s (.tuple #[.int .i64 0, .bool false]) := .inr ⟨fun _ ht => h (isIso_nums ht).1, rfl⟩
theorem UnV.neg {s : ByteArray} (h : secs (numAt s 0 4) (numAt s 5 7) (numAt s 8 10) (numAt s 11 13) (numAt s 14 16) (numAt s 17 19) < 0) : UnV s (.tuple #[.int .i64 0, .bool false]) := .inr ⟨fun _ ht => by have h1 := (isIso_nums ht).2; have h2 := ht.1; omega, rfl⟩
theorem UnV.ne {s : ByteArray} {y m d h n sc : Nat} (hc : CkN (secs (numAt s 0 4) (numAt s 5 7) (numAt s 8 10) (numAt s 11 13) (numAt s 14 16) (numAt s 17 19)) y m d h n sc) (hne : isoS y m d h n sc ≠ s) : UnV s (.tuple #[.int .i64 0, .bool false]) := by
  refine .inr ⟨fun t ht => ?_, rfl⟩
  have h1 := (isIso_nums ht).2
  obtain ⟨-, -, y', m', d', h', n', sc', hc', hx⟩ := ht
  rw [← h1] at hc'
  obtain ⟨rfl, rfl, rfl, rfl, rfl, rfl⟩ := hc.uniq hc'
  exact hne hx.symm
theorem UnV.yes {s : ByteArray} {t : Int} {y m d h n sc : Nat} (h0 : 0 ≤ t) (h1 : t ≤ 253402300799) (hc : CkN t y m d h n sc) (he : isoS y m d h n sc = s) : UnV s (.tuple #[.int .i64 t, .bool true]) := .inl ⟨t, ⟨h0, h1, _, _, _, _, _, _, hc, he.symm⟩, rfl⟩
theorem str_ne (a b : ByteArray) : (a.toList == b.toList) = true ↔ a = b := by rw [toL, toL, beq_iff_eq]; exact ⟨bs_inj, fun h => by rw [h]⟩
end Go.Proofs.YtngamlikhgilhaaDoor
