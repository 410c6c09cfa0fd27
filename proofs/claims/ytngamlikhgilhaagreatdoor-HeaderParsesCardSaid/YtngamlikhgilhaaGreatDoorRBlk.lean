/- Headers in memory; a header that came in. -/
import Derived.Test.YtngamlikhgilhaaGreatDoorZL
import Derived.Deep.Fields
import Derived.ChangeSame
import Derived.SizedLaws
import Derived.WideShapes
import Derived.ChangeShapes
namespace Go.Proofs.YtngamlikhgilhaaGreatDoor
open Go.RowKit Go.Shelf Go.ChangeShapes Go.WideShapes Go.Deep

theorem i64_in {n : Int} (h : (Lit.int .i64 n).wf = true) : -9223372036854775808 ≤ n ∧ n ≤ 9223372036854775807 := by
  simpa [Lit.wf, IntKind.min, IntKind.max, IntKind.bits, IntKind.signed] using h
theorem parV_open (o : Option Hd) : ∃ (h : Hd) (d : Bool), parV o = .tuple #[.agg #[.string h.nm, .string h.vl, .string h.dm, .string h.pt, .int .i64 h.ex, .bool h.se, .bool h.ho, .int .i64 h.st], .bool d] := ⟨o.getD zH, o.isSome, rfl⟩
/-- A header's value. -/
def hdV (h : Hd) : Value := .agg #[.string h.nm, .string h.vl, .string h.dm, .string h.pt, .int .i64 h.ex, .bool h.se, .bool h.ho, .int .i64 h.st]
theorem parV_none {o : Option Hd} (h : o = none) : parV o = .tuple #[.agg #[.string ⟨#[]⟩, .string ⟨#[]⟩, .string ⟨#[]⟩, .string ⟨#[]⟩, .int .i64 0, .bool false, .bool false, .int .i64 0], .bool false] := by rw [h]; rfl
theorem parV_some {o : Option Hd} {h : Hd} (e : o = some h) : parV o = .tuple #[.agg #[.string h.nm, .string h.vl, .string h.dm, .string h.pt, .int .i64 h.ex, .bool h.se, .bool h.ho, .int .i64 h.st], .bool true] := by rw [e]; rfl
/-- A header lies in block b. -/
structure RB (b : Nat) (W : World) (h : Hd) : Prop where
  rd : W.rangeAt b 0 (hdL h)
  wr : W.there b 0 8
  lt : b < W.heap.size
theorem RB.new (W : World) (h : Hd) (t : TypeId) : RB W.heap.size (W.alloc (.cells (hdL h).toArray t)) h :=
  ⟨hrange_new W (hdL h) t, hthere_new W (hdL h) t, by rw [World.size_alloc]; omega⟩
theorem RB.keep {b : Nat} {W W' : World} {h : Hd} (H : RB b W h) (hb : Below W.heap.size W W') : RB b W' h :=
  ⟨hrange_keep H.rd hb H.lt, hthere_keep H.wr hb H.lt, Nat.lt_of_lt_of_le H.lt hb.size⟩
theorem RB.alloc {b : Nat} {W : World} {h : Hd} (H : RB b W h) (o : Obj) : RB b (W.alloc o) h := H.keep ((Below.refl W.heap.size W).alloc (Nat.le_refl _) o)
theorem RB.set {b : Nat} {W : World} {h g : Hd} (H : RB b W h) (j : Nat) (v : Value) (hg : (hdL h).set j v = hdL g) : RB b (W.setCell ⟨b, j, none⟩ v) g :=
  ⟨hg ▸ hrange_set H.rd j v, hthere_set H.wr _ _, by rw [World.size_setCell]; exact H.lt⟩
theorem RB.far {b b' : Nat} {W : World} {h : Hd} (H : RB b W h) (hn : b' ≠ b) (j : Nat) (v : Value) : RB b (W.setCell ⟨b', j, none⟩ v) h :=
  ⟨hrange_apart H.rd hn j v, hthere_set H.wr _ _, by rw [World.size_setCell]; exact H.lt⟩
theorem RB.cells {b : Nat} {W : World} {h : Hd} (H : RB b W h) : W.cell? ⟨b, 0, none⟩ = some (.string h.nm) ∧ W.cell? ⟨b, 1, none⟩ = some (.string h.vl) ∧ W.cell? ⟨b, 2, none⟩ = some (.string h.dm) ∧ W.cell? ⟨b, 3, none⟩ = some (.string h.pt) ∧
   W.cell? ⟨b, 4, none⟩ = some (.int .i64 h.ex) ∧ W.cell? ⟨b, 5, none⟩ = some (.bool h.se) ∧ W.cell? ⟨b, 6, none⟩ = some (.bool h.ho) ∧ W.cell? ⟨b, 7, none⟩ = some (.int .i64 h.st) :=
  ⟨H.rd 0 _ rfl, H.rd 1 _ rfl, H.rd 2 _ rfl, H.rd 3 _ rfl, H.rd 4 _ rfl, H.rd 5 _ rfl, H.rd 6 _ rfl, H.rd 7 _ rfl⟩
theorem box_hd (nm vl dm pt : ByteArray) (ex : Int) (se ho : Bool) (st : Int) (w W : World) (t : TypeId) (h : Below w.heap.size w W) : ∃ v, v = W.alloc (.cells #[.string nm, .string vl, .string dm, .string pt, .int .i64 ex, .bool se, .bool ho, .int .i64 st] t) ∧ RB W.heap.size v ⟨nm, vl, dm, pt, ex, se, ho, st⟩ ∧ (∀ b g, RB b W g → RB b v g) ∧ Below w.heap.size w v ∧ v.heap.size = W.heap.size + 1 :=
  ⟨_, rfl, RB.new W ⟨nm, vl, dm, pt, ex, se, ho, st⟩ _, fun _ _ H => H.alloc _, h.alloc h.size _, World.size_alloc ..⟩
theorem hint_field {H : Type} {enc : TypeId × Value → H} {w : World} {base : Nat} {spare : Nat → Bool} {held : Bool} {t : TypeId} {fuel : Nat} {c : Value} {x : Option (DataW H × List MemPlace)} {xs : List (DataW H × List MemPlace)} {i : Nat} (hi : i < xs.length)
    (ht : Tryz.prog.underlying t = some (.int .i64)) (h : DataW.trod enc Tryz.prog w base spare held fuel t [c] = x) (hx : x = xs[i]?) : ∃ n, c = .int .i64 n := by
  rw [hx, List.getElem?_eq_getElem hi] at h
  obtain ⟨n, e, _⟩ := DataW.trod_int ht h
  exact ⟨n, by simpa using e⟩
theorem hbool_field {H : Type} {enc : TypeId × Value → H} {w : World} {base : Nat} {spare : Nat → Bool} {held : Bool} {t : TypeId} {fuel : Nat} {c : Value} {x : Option (DataW H × List MemPlace)} {xs : List (DataW H × List MemPlace)} {i : Nat} (hi : i < xs.length)
    (ht : Tryz.prog.underlying t = some .bool) (h : DataW.trod enc Tryz.prog w base spare held fuel t [c] = x) (hx : x = xs[i]?) : ∃ n, c = .bool n := by
  rw [hx, List.getElem?_eq_getElem hi] at h
  obtain ⟨n, e, _⟩ := DataW.trod_bool ht h
  exact ⟨n, by simpa using e⟩
theorem hstr_field {H : Type} {enc : TypeId × Value → H} {w : World} {base : Nat} {spare : Nat → Bool} {held : Bool} {t : TypeId} {fuel : Nat} {c : Value} {x : Option (DataW H × List MemPlace)} {xs : List (DataW H × List MemPlace)} {i : Nat} (hi : i < xs.length)
    (ht : Tryz.prog.underlying t = some .string) (h : DataW.trod enc Tryz.prog w base spare held fuel t [c] = x) (hx : x = xs[i]?) : ∃ n : ByteArray, c = .string n ∧ (xs.map (·.1))[i]? = some (.lit (.string n.data.toList)) := by
  rw [hx, List.getElem?_eq_getElem hi] at h
  obtain ⟨n, e, e2, _⟩ := DataW.trod_string ht h
  refine ⟨n, by simpa using e, ?_⟩
  rw [List.getElem?_map, List.getElem?_eq_getElem hi, e2]
  rfl
noncomputable def hdFs : Array Field := match Tryz.prog.underlying 27 with
  | some (.struct fs) => fs
  | _ => #[]
set_option maxRecDepth 100000 in
theorem openHdr {H : Type} {enc : TypeId × Value → H} {w : World} {r : Reach} {b0 base : Nat} {spare : Nat → Bool} {held : Bool} {v : Value} {d : DataW H} {p : List MemPlace}
    (hv : Value.okWide Tryz.prog w r b0 27 v) (h : DataW.Trod enc Tryz.prog w base spare held 27 v d p) (hw : ∀ n ∈ d.weights Tryz.prog 27, n ≤ 140737488351232) :
    ∃ c : Hd, v = hdV c ∧ (c.nm.size ≤ 140737488351232 ∧ c.vl.size ≤ 140737488351232 ∧ c.dm.size ≤ 140737488351232 ∧ c.pt.size ≤ 140737488351232) := by
  obtain ⟨cs, rfl, hsz⟩ := okWide_struct Tryz.underlying27 hv
  obtain ⟨l⟩ := cs
  have hC : Tryz.prog.cellsOf 27 = 8 := by kernel_rfl
  match l, hsz.trans hC with
  | [c0, c1, c2, c3, c4, c5, c6, c7], _ =>
    obtain ⟨fuel, hf⟩ := h
    obtain ⟨xs, n, _, hd, _, hlen, hg⟩ := DataW.trod_struct Tryz.underlying27 hf
    have hl : xs.length = 8 := by simpa using hlen
    have k3 : Tryz.prog.cellsOf 4 = 1 := by kernel_rfl
    have k4 : Tryz.prog.cellsOf 9 = 1 := by kernel_rfl
    have k5 : Tryz.prog.cellsOf 3 = 1 := by kernel_rfl
    have g0 : DataW.trod enc Tryz.prog w base spare held n 9 [c0] = xs[0]? := by
      have := hg 0 _ rfl
      simpa [k3, k4, k5, Value.cells] using this
    have g1 : DataW.trod enc Tryz.prog w base spare held n 9 [c1] = xs[1]? := by
      have := hg 1 _ rfl
      simpa [k3, k4, k5, Value.cells] using this
    have g2 : DataW.trod enc Tryz.prog w base spare held n 9 [c2] = xs[2]? := by
      have := hg 2 _ rfl
      simpa [k3, k4, k5, Value.cells] using this
    have g3 : DataW.trod enc Tryz.prog w base spare held n 9 [c3] = xs[3]? := by
      have := hg 3 _ rfl
      simpa [k3, k4, k5, Value.cells] using this
    have g4 : DataW.trod enc Tryz.prog w base spare held n 3 [c4] = xs[4]? := by
      have := hg 4 _ rfl
      simpa [k3, k4, k5, Value.cells] using this
    have g5 : DataW.trod enc Tryz.prog w base spare held n 4 [c5] = xs[5]? := by
      have := hg 5 _ rfl
      simpa [k3, k4, k5, Value.cells] using this
    have g6 : DataW.trod enc Tryz.prog w base spare held n 4 [c6] = xs[6]? := by
      have := hg 6 _ rfl
      simpa [k3, k4, k5, Value.cells] using this
    have g7 : DataW.trod enc Tryz.prog w base spare held n 3 [c7] = xs[7]? := by
      have := hg 7 _ rfl
      simpa [k3, k4, k5, Value.cells] using this
    obtain ⟨a0, e0, f0⟩ := hstr_field (c := c0) (by omega) Tryz.underlying9 g0 rfl
    obtain ⟨a1, e1, f1⟩ := hstr_field (c := c1) (by omega) Tryz.underlying9 g1 rfl
    obtain ⟨a2, e2, f2⟩ := hstr_field (c := c2) (by omega) Tryz.underlying9 g2 rfl
    obtain ⟨a3, e3, f3⟩ := hstr_field (c := c3) (by omega) Tryz.underlying9 g3 rfl
    obtain ⟨a4, e4⟩ := hint_field (c := c4) (by omega) Tryz.underlying3 g4 rfl
    obtain ⟨a5, e5⟩ := hbool_field (c := c5) (by omega) Tryz.underlying4 g5 rfl
    obtain ⟨a6, e6⟩ := hbool_field (c := c6) (by omega) Tryz.underlying4 g6 rfl
    obtain ⟨a7, e7⟩ := hint_field (c := c7) (by omega) Tryz.underlying3 g7 rfl
    have hdd : d = .agg (xs.map (·.1)) := by
      have := congrArg Prod.fst hd
      simpa using this
    have hb : ∀ (i : Nat) (a : ByteArray), Tryz.prog.underlying 27 = some (.struct hdFs) → (hdFs.toList.map fun f : Field => f.type)[i]? = some 9 → (xs.map (·.1))[i]? = some (.lit (.string a.data.toList)) → a.size ≤ 140737488351232 := by
      intro i a hu ht hx
      refine hw a.size ?_
      rw [hdd, DataW.weights, hu]
      have := DataW.weights_mem_each (P := Tryz.prog) ht hx a.data.toList.length (by simp [DataW.weights])
      have e : a.data.toList.length = a.size := (size_bs a).symm
      rw [e] at this
      exact this
    have hu : Tryz.prog.underlying 27 = some (.struct hdFs) := by kernel_rfl
    exact ⟨⟨a0, a1, a2, a3, a4, a5, a6, a7⟩, by rw [e0, e1, e2, e3, e4, e5, e6, e7]; rfl, hb 0 a0 hu (by kernel_rfl) f0, hb 1 a1 hu (by kernel_rfl) f1, hb 2 a2 hu (by kernel_rfl) f2, hb 3 a3 hu (by kernel_rfl) f3⟩
end Go.Proofs.YtngamlikhgilhaaGreatDoor
