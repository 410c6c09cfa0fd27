/- The builder, and what header.Print's closure says. -/
import Derived.Test.YtngamlikhgilhaaDoorHdrF
import Derived.Shelf.Lay
import Derived.Shelf.LaySoft
import Derived.RangeFuncNested
namespace Go.Proofs.YtngamlikhgilhaaDoor
open Go.RowKit Go.Shelf

/-- The builder's functions: their numbers. -/
def bren : Ren := ⟨fun | 166 => 40 | 169 => 43 | 240 => 61 | 276 => 80 | n => n, Tryd.lays156_ren.t, Tryd.lays156_ren.g⟩
theorem bl166 : Lays.n166 Tryd.prog bren := { Tryd.lays156 with
  f166 := Tryd.lays156.f166
  f240 := Tryd.lays156.f240
  f276 := Tryd.lays156.f276 }
theorem bl169 : Lays.n169 Tryd.prog bren := { Tryd.lays156 with
  f169 := Tryd.lays156.f169 }
theorem bextra : Builder.Extra Tryd.prog bren where
  sizeBuilder := by kernel_rfl
  liesBuilder := by kernel_rfl
  t5 := Tryd.underlying5
  a5 := Tryd.isAgg5
  z5 := Tryd.sizeOf5
  v5 := Tryd.zeroValue5
  infoByte := by kernel_rfl
  cellsByte := by kernel_rfl
  sizeByte := by kernel_rfl
  neB5 := by decide
theorem bextraJ : Builder.Extra Tryd.prog Tryd.lays156_ren where
  sizeBuilder := by kernel_rfl
  liesBuilder := by kernel_rfl
  t5 := Tryd.underlying5
  a5 := Tryd.isAgg5
  z5 := Tryd.sizeOf5
  v5 := Tryd.zeroValue5
  infoByte := by kernel_rfl
  cellsByte := by kernel_rfl
  sizeByte := by kernel_rfl
  neB5 := by decide
/-- A builder at block b that holds these bytes; all it has made lies from block B on. -/
def Bld (B b : Nat) (l : List UInt8) (w : World) : Prop := Lib.IsBuilder 63 5 B b (Lib.byteCells l) w
theorem wstr_any (B b : Nat) (l : List UInt8) (s : ByteArray) (w : World) (h : Bld B b l w) (hlen : l.length + s.size ≤ 140737488355328) (hB : B ≤ w.heap.size) :
    Calls Tryd.prog 40 #[.pointer (some ⟨b, 0, none⟩), .string s] w fun e w' => e = .returned (.tuple #[.int .i64 s.size, .nilIface]) ∧ Bld B b (l ++ bs s) w' ∧ Below B w w' := by
  refine (Any.Builder_WriteString bl166 bextra B b (Lib.byteCells l) s w h (by rw [Lib.byteCells, List.length_map]; exact hlen) hB).mono ?_
  rintro e w' ⟨rfl, h1, h2⟩
  refine ⟨rfl, .inr ?_, h2⟩
  rw [show Lib.byteCells (l ++ bs s) = Lib.byteCells l ++ Lib.strCells s from by simp [Lib.byteCells, Lib.strCells, bs]]
  exact h1
theorem bstr_any (B b : Nat) (l : List UInt8) (w : World) (h : Bld B b l w) (hB : B ≤ w.heap.size) :
    Calls Tryd.prog 43 #[.pointer (some ⟨b, 0, none⟩)] w fun e w' => e = .returned (.string (mk l)) ∧ Below B w w' :=
  Any.Builder_String_any bl169 bextra B b l w h hB
theorem Bld.new (w : World) (B : Nat) (hB : B ≤ w.heap.size) : Bld B w.heap.size [] (w.alloc (.cells #[.pointer none, .slice none 0 0] 63)) :=
  .inl ⟨hB, _, World.alloc_heap_new w _, World.ownsRow_nil _ _ _ _, by simp [Value.ownBlock]⟩
theorem Bld.keep {B b : Nat} {l : List UInt8} {w w' : World} (h : Bld B b l w) (hb : Below w.heap.size w w') (_ : B ≤ w.heap.size) : Bld B b l w' := by
  have key : ∀ p, Lib.BuilderAt 63 5 B b p (Lib.byteCells l) w → Lib.BuilderAt 63 5 B b p (Lib.byteCells l) w' := by
    rintro p ⟨h1, v, h2, h3, h4⟩
    refine ⟨h1, v, (hb.block b (Array.getElem?_eq_some_iff.1 h2).1).trans h2, ?_, h4⟩
    obtain ⟨e1, ⟨rfl, e2⟩ | ⟨g, cap, cur, rfl, k1, k2, k3⟩⟩ := h3
    · exact ⟨e1, .inl ⟨rfl, e2⟩⟩
    · exact ⟨e1, .inr ⟨g, cap, cur, rfl, k1, (hb.block g (Array.getElem?_eq_some_iff.1 k2).1).trans k2, k3⟩⟩
  rcases h with h | h
  · exact .inl (key _ h)
  · exact .inr (key _ h)

theorem join2 (x y : ByteArray) : (Lib.join ([x, y].map (·.data.toList)) [61]) = bs x ++ 61 :: bs y := by
  simp [Lib.join, bs]
theorem ljoin2 (k : Nat) (x y : ByteArray) (w : World) (h0 : w.cell? ⟨k, 0, none⟩ = some (.string x)) (h1 : w.cell? ⟨k, 1, none⟩ = some (.string y)) (hk : k < w.heap.size) (hl : x.size + y.size ≤ 1000000) :
    Calls Tryd.prog 41 #[.slice (some ⟨k, 0, none⟩) 2 2, .string ⟨#[61]⟩] w fun e w' => e = .returned (.string (mk (bs x ++ 61 :: bs y))) ∧ Below w.heap.size w w' := by
  refine (Any.strings_Join Tryd.lays156 bextraJ k 0 2 [x, y] ⟨#[61]⟩ w ?_ hk (by simp) (by simp) ?_).mono ?_
  · intro j z hz
    rw [Nat.zero_add]
    match j with
    | 0 => cases hz; exact h0
    | 1 => cases hz; exact h1
    | j + 2 => simp at hz
  · rw [show (⟨#[61]⟩ : ByteArray).data.toList = [61] from rfl, join2, List.length_append, List.length_cons, ← size_bs, ← size_bs]
    omega
  · rintro e w' ⟨rfl, hb⟩
    exact ⟨by rw [show (⟨#[61]⟩ : ByteArray).data.toList = [61] from rfl, join2]; rfl, hb⟩
theorem ljoin1 (k : Nat) (x : ByteArray) (w : World) (h0 : w.cell? ⟨k, 0, none⟩ = some (.string x)) :
    Calls Tryd.prog 41 #[.slice (some ⟨k, 0, none⟩) 1 1, .string ⟨#[61]⟩] w fun e w' => e = .returned (.string x) ∧ w = w' := by
  refine (Any.strings_Join_one Tryd.lays156 bextraJ k 0 1 x ⟨#[61]⟩ w h0).mono ?_
  rintro e w' ⟨rfl, rfl⟩
  exact ⟨rfl, rfl⟩
/-- What is written, if it is. -/
def ifL (c : Bool) (l : List UInt8) : List UInt8 := if c then 59 :: 32 :: l else []
def SAY (B b : Nat) (l : List UInt8) (W : World) (e : Ending) (w' : World) : Prop := e = .returned (.tuple #[]) ∧ Bld B b l w' ∧ Below B W w'
set_option maxRecDepth 100000 in
theorem say2g (c : Bool) (x y : ByteArray) (B b : Nat) (l : List UInt8) (k : Nat) (W0 : World) (h1 : Bld B b l W0) (hB : B ≤ W0.heap.size) (hc0 : W0.cell? ⟨k, 0, none⟩ = some (.string x)) (hc1 : W0.cell? ⟨k, 1, none⟩ = some (.string y)) (hk : k < W0.heap.size) (hl : l.length ≤ 1000000) (hxy : x.size + y.size ≤ 1000000) :
    Calls Tryd.prog 39 #[.bool c, .slice (some ⟨k, 0, none⟩) 2 2, .pointer (some ⟨b, 0, none⟩)] W0 (SAY B b (l ++ ifL c (bs x ++ 61 :: bs y)) W0) := by
  have hbB : Below B W0 W0 := Below.refl _ _
  have H1 := Lib.hid h1
  have HC := Lib.hid (And.intro hc0 hc1)
  have HB := Lib.hid hbB
  clear h1 hc0 hc1 hbB
  cases c
  · go_enter Tryd.func39, Tryd.ntmps39
    go_wp2_with fail
    go_end0
    refine ⟨rfl, ?_, HB.out⟩
    unfold ifL
    rw [if_neg (by decide), List.append_nil]
    exact H1.out
  · have HE := Lib.hid (show bs ((⟨#[59, 32]⟩ : ByteArray) ++ mk (bs x ++ 61 :: bs y)) = ifL true (bs x ++ 61 :: bs y) by rw [bs_append, bs_mk]; rfl)
    have hz : ((⟨#[59, 32]⟩ : ByteArray) ++ mk (bs x ++ 61 :: bs y)).size = x.size + y.size + 3 := by rw [size_bs, HE.out]; unfold ifL; rw [if_pos rfl, List.length_cons, List.length_cons, List.length_append, List.length_cons, ← size_bs, ← size_bs]; omega
    have hz2 : (mk (bs x ++ 61 :: bs y)).size = x.size + y.size + 1 := by rw [size_mk, List.length_append, List.length_cons, ← size_bs, ← size_bs]; omega
    have HJ := Lib.hid (ljoin2 k x y W0 HC.out.1 HC.out.2 hk hxy)
    generalize mk (bs x ++ 61 :: bs y) = j at *
    go_enter Tryd.func39, Tryd.ntmps39
    go_wp2_with fail
    refine HJ.out.mono ?_
    rintro e w1 ⟨rfl, hb1⟩
    have H2 := Lib.hid (H1.out.keep hb1 (by omega))
    have hs1 := hb1.size
    have HB1 := Lib.hid (HB.out.trans (hb1.mono (show B ≤ _ by omega)))
    clear hb1
    go_wp2_with fail
    refine (wstr_any B b l _ _ H2.out (by rw [hz]; omega) (by omega)).mono ?_
    rintro e w2 ⟨rfl, hA, hb2⟩
    rw [HE.out] at hA
    have HA := Lib.hid hA
    have HB2 := Lib.hid (HB1.out.trans hb2)
    clear hA hb2
    go_wp2_with fail
    go_end0
    exact ⟨rfl, HA.out, HB2.out⟩
theorem say2 (c : Bool) (x y : ByteArray) (B b : Nat) (l : List UInt8) (W : World) (T : TypeId) (h : Bld B b l W) (hB : B ≤ W.heap.size) (hl : l.length ≤ 1000000) (hxy : x.size + y.size ≤ 1000000) :
    Calls Tryd.prog 39 #[.bool c, .slice (some ⟨W.heap.size, 0, none⟩) 2 2, .pointer (some ⟨b, 0, none⟩)] (W.alloc (.cells #[.string x, .string y] T)) (SAY B b (l ++ ifL c (bs x ++ 61 :: bs y)) W) := by
  have hb0 := (Below.refl W.heap.size W).alloc (Nat.le_refl _) (.cells #[.string x, .string y] T)
  refine (say2g c x y B b l W.heap.size _ (h.keep hb0 hB) (Nat.le_trans hB hb0.size) (hcellNew W [.string x, .string y] T 0) (hcellNew W [.string x, .string y] T 1) (by rw [World.size_alloc]; omega) hl hxy).mono ?_
  rintro e w' ⟨h1, h2, h3⟩
  exact ⟨h1, h2, (hb0.mono hB).trans h3⟩
theorem say2d (c : Bool) (x y : ByteArray) (B b : Nat) (l : List UInt8) (W : World) (T : TypeId) (h : Bld B b l W) (hB : B ≤ W.heap.size) (hl : l.length ≤ 1000000) (hxy : x.size + y.size ≤ 1000000) :
    Calls Tryd.prog 39 #[.bool c, .slice (some ⟨W.heap.size, 0, none⟩) 2 2, .pointer (some ⟨b, 0, none⟩)] (W.alloc (.cells #[.string x, .string y] T)).drew (SAY B b (l ++ ifL c (bs x ++ 61 :: bs y)) W) := by
  have hb0 := ((Below.refl W.heap.size W).alloc (Nat.le_refl _) (.cells #[.string x, .string y] T)).drew
  refine (say2g c x y B b l W.heap.size _ (h.keep hb0 hB) (Nat.le_trans hB hb0.size) (hcellNew W [.string x, .string y] T 0) (hcellNew W [.string x, .string y] T 1) (by show W.heap.size < (W.alloc (.cells #[.string x, .string y] T)).heap.size; rw [World.size_alloc]; omega) hl hxy).mono ?_
  rintro e w' ⟨h1, h2, h3⟩
  exact ⟨h1, h2, (hb0.mono hB).trans h3⟩
set_option maxRecDepth 100000 in
theorem say1 (c : Bool) (x : ByteArray) (B b : Nat) (l : List UInt8) (W : World) (T : TypeId) (h : Bld B b l W) (hB : B ≤ W.heap.size) (hl : l.length ≤ 1000000) (hxy : x.size ≤ 1000000) :
    Calls Tryd.prog 39 #[.bool c, .slice (some ⟨W.heap.size, 0, none⟩) 1 1, .pointer (some ⟨b, 0, none⟩)] (W.alloc (.cells #[.string x] T)) (SAY B b (l ++ ifL c (bs x)) W) := by
  have hb0 := (Below.refl W.heap.size W).alloc (Nat.le_refl _) (.cells #[.string x] T)
  have h1 := h.keep hb0 hB
  have hc0 := hcellNew W [.string x] T 0
  have hsz : (W.alloc (.cells #[.string x] T)).heap.size = W.heap.size + 1 := World.size_alloc ..
  have hbB : Below B W (W.alloc (.cells #[.string x] T)) := hb0.mono hB
  generalize W.alloc (.cells #[.string x] T) = W0 at *
  have H1 := Lib.hid h1
  have HC := Lib.hid hc0
  have HB := Lib.hid hbB
  clear h h1 hc0 hb0 hbB
  cases c
  · go_enter Tryd.func39, Tryd.ntmps39
    go_wp2_with fail
    go_end0
    refine ⟨rfl, ?_, HB.out⟩
    unfold ifL
    rw [if_neg (by decide), List.append_nil]
    exact H1.out
  · have HE := Lib.hid (show bs ((⟨#[59, 32]⟩ : ByteArray) ++ x) = ifL true (bs x) by rw [bs_append]; rfl)
    have hz : ((⟨#[59, 32]⟩ : ByteArray) ++ x).size = x.size + 2 := by rw [size_bs, HE.out]; unfold ifL; rw [if_pos rfl, List.length_cons, List.length_cons, ← size_bs]
    have HJ := Lib.hid (ljoin1 W.heap.size x W0 HC.out)
    go_enter Tryd.func39, Tryd.ntmps39
    go_wp2_with fail
    refine HJ.out.mono ?_
    rintro e w1 ⟨rfl, rfl⟩
    go_wp2_with fail
    refine (wstr_any B b l _ _ H1.out (by rw [hz]; omega) (by omega)).mono ?_
    rintro e w2 ⟨rfl, hA, hb2⟩
    rw [HE.out] at hA
    have HA := Lib.hid hA
    have HB2 := Lib.hid (HB.out.trans hb2)
    clear hA hb2
    go_wp2_with fail
    go_end0
    exact ⟨rfl, HA.out, HB2.out⟩
end Go.Proofs.YtngamlikhgilhaaDoor
