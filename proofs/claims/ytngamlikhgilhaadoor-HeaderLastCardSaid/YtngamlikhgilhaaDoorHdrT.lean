/- The statement HeaderAges: the walk. -/
import Derived.Test.YtngamlikhgilhaaDoorHdrI
namespace Go.Proofs.YtngamlikhgilhaaDoor
open Go.RowKit Go.Shelf

theorem i64_in {n : Int} (h : (Lit.int .i64 n).wf = true) : -9223372036854775808 ≤ n ∧ n ≤ 9223372036854775807 := by
  simpa [Lit.wf, IntKind.min, IntKind.max, IntKind.bits, IntKind.signed] using h
/-- A header's value. -/
def hdV (h : Hd) : Value := .agg #[.string h.nm, .string h.vl, .string h.dm, .string h.pt, .int .i64 h.ex, .bool h.se, .bool h.ho, .int .i64 h.st]
theorem parV_none {o : Option Hd} (h : o = none) : parV o = .tuple #[.agg #[.string ⟨#[]⟩, .string ⟨#[]⟩, .string ⟨#[]⟩, .string ⟨#[]⟩, .int .i64 0, .bool false, .bool false, .int .i64 0], .bool false] := by rw [h]; rfl
theorem parV_some {o : Option Hd} {h : Hd} (e : o = some h) : parV o = .tuple #[.agg #[.string h.nm, .string h.vl, .string h.dm, .string h.pt, .int .i64 h.ex, .bool h.se, .bool h.ho, .int .i64 h.st], .bool true] := by rw [e]; rfl
/-- A header lies in block b. -/
structure RB (b : Nat) (W : World) (h : Hd) : Prop where
  rd : W.rangeAt b 0 (hdL h)
  wr : W.there b 0 8
  lt : b < W.heap.size
theorem RB.new (W : World) (h : Hd) (t : TypeId) : RB W.heap.size (W.alloc (.cells (hdL h).toArray t)) h :=
  ⟨hrange_new W (hdL h) t, hthere_new W (hdL h) t, by rw [World.size_alloc]; omega⟩
theorem RB.keep {b : Nat} {W W' : World} {h : Hd} (H : RB b W h) (hb : Below W.heap.size W W') : RB b W' h :=
  ⟨hrange_keep H.rd hb H.lt, hthere_keep H.wr hb H.lt, Nat.lt_of_lt_of_le H.lt hb.size⟩
theorem RB.alloc {b : Nat} {W : World} {h : Hd} (H : RB b W h) (o : Obj) : RB b (W.alloc o) h := H.keep ((Below.refl W.heap.size W).alloc (Nat.le_refl _) o)
theorem RB.set {b : Nat} {W : World} {h g : Hd} (H : RB b W h) (j : Nat) (v : Value) (hg : (hdL h).set j v = hdL g) : RB b (W.setCell ⟨b, j, none⟩ v) g :=
  ⟨hg ▸ hrange_set H.rd j v, hthere_set H.wr _ _, by rw [World.size_setCell]; exact H.lt⟩
theorem RB.far {b b' : Nat} {W : World} {h : Hd} (H : RB b W h) (hn : b' ≠ b) (j : Nat) (v : Value) : RB b (W.setCell ⟨b', j, none⟩ v) h :=
  ⟨hrange_apart H.rd hn j v, hthere_set H.wr _ _, by rw [World.size_setCell]; exact H.lt⟩
theorem RB.cells {b : Nat} {W : World} {h : Hd} (H : RB b W h) : W.cell? ⟨b, 0, none⟩ = some (.string h.nm) ∧ W.cell? ⟨b, 1, none⟩ = some (.string h.vl) ∧ W.cell? ⟨b, 2, none⟩ = some (.string h.dm) ∧ W.cell? ⟨b, 3, none⟩ = some (.string h.pt) ∧
   W.cell? ⟨b, 4, none⟩ = some (.int .i64 h.ex) ∧ W.cell? ⟨b, 5, none⟩ = some (.bool h.se) ∧ W.cell? ⟨b, 6, none⟩ = some (.bool h.ho) ∧ W.cell? ⟨b, 7, none⟩ = some (.int .i64 h.st) :=
  ⟨H.rd 0 _ rfl, H.rd 1 _ rfl, H.rd 2 _ rfl, H.rd 3 _ rfl, H.rd 4 _ rfl, H.rd 5 _ rfl, H.rd 6 _ rfl, H.rd 7 _ rfl⟩
set_option maxRecDepth 100000 in
theorem rprint_neg (k : Nat) (h0 : 0 < k) (hk : k ≤ 253402300799) (w : World) : Calls Tryd.prog 8 #[.int .i64 (-(k : Int))] w fun e w' => e = .returned (.string (⟨#[45]⟩ ++ prtS k)) ∧ Below w.heap.size w w' := by
  have k0 : -(k : Int) < 0 := by omega
  have k1 : IntKind.u64.wrap (-(-(k : Int) + 1)) = (k : Int) - 1 := by rw [IntKind.wrap_u64]; omega
  have k2 : (k : Int) - 1 + 1 = k := by omega
  have hl := digL_len 12 k (by decide) (by rw [show (10 : Nat) ^ 12 = 1000000000000 from rfl]; omega)
  have hz := prt_size k
  have HC := Lib.hid (fun w => rdigits_any k (by omega) w)
  generalize prtS k = X at *
  have e4 : (⟨#[45]⟩ : ByteArray).size = 1 := rfl
  have k3 : ¬ 9223372036854775807 < 1 + X.size := by omega
  go_enter Tryd.func8, Tryd.ntmps8
  go_wp2_with fail
  refine (HC.out _).mono ?_
  rintro e w1 ⟨rfl, hb⟩
  go_wp2_with fail
  go_ret
  exact ⟨rfl, hb⟩
theorem rprint_int (n : Int) (h0 : -253402300799 ≤ n) (h1 : n ≤ 253402300799) (w : World) : Calls Tryd.prog 8 #[.int .i64 n] w fun e w' => e = .returned (.string (mk (intL n))) ∧ Below w.heap.size w w' := by
  by_cases h : n < 0
  · obtain ⟨k, rfl⟩ : ∃ k : Nat, n = -(k : Int) := ⟨n.natAbs, by omega⟩
    refine (rprint_neg k (by omega) (by omega) w).mono ?_
    rintro e w' ⟨rfl, hb⟩
    refine ⟨?_, hb⟩
    congr 2
    apply bs_inj
    unfold intL prtS
    rw [if_pos h, bs_append, bs_mk, bs_mk, show (-(k : Int)).natAbs = k by omega]
    rfl
  · obtain ⟨k, rfl⟩ : ∃ k : Nat, n = (k : Int) := ⟨n.natAbs, by omega⟩
    refine (rprint_pos k (by omega) w).mono ?_
    rintro e w' ⟨rfl, hb⟩
    refine ⟨?_, hb⟩
    unfold intL prtS
    rw [if_neg h, show ((k : Int)).natAbs = k by omega]
theorem intL_len (n : Int) (h0 : -253402300799 ≤ n) (h1 : n ≤ 253402300799) : (mk (intL n)).size ≤ 13 := by
  have hl := digL_len 12 n.natAbs (by decide) (by rw [show (10 : Nat) ^ 12 = 1000000000000 from rfl]; omega)
  rw [size_mk]
  unfold intL
  split
  · rw [List.length_cons]; omega
  · omega
end Go.Proofs.YtngamlikhgilhaaDoor
