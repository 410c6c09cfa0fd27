/- The builder, and what header.Print's closure says. -/
import Derived.Test.YtngamlikhgilhaaGreatDoorZJ
import Derived.Shelf.Lay
import Derived.Shelf.LaySoft
import Derived.RangeFuncNested
import Derived.Deep.RegionHeld
namespace Go.Proofs.YtngamlikhgilhaaGreatDoor
open Go.RowKit Go.Shelf

/-- The builder's functions: their numbers. -/
def bren : Ren := ⟨fun | 166 => 30 | 169 => 33 | 240 => 65 | 276 => 103 | n => n, Tryz.lays156_ren.t, Tryz.lays156_ren.g⟩
theorem bl166 : Lays.n166 Tryz.prog bren := { Tryz.lays156 with
  f166 := Tryz.lays156.f166
  f240 := Tryz.lays156.f240
  f276 := Tryz.lays156.f276 }
theorem bl169 : Lays.n169 Tryz.prog bren := { Tryz.lays156 with
  f169 := Tryz.lays156.f169 }
theorem bextra : Builder.Extra Tryz.prog bren where
  sizeBuilder := by kernel_rfl
  liesBuilder := by kernel_rfl
  t5 := Tryz.underlying5
  a5 := Tryz.isAgg5
  z5 := Tryz.sizeOf5
  v5 := Tryz.zeroValue5
  infoByte := by kernel_rfl
  cellsByte := by kernel_rfl
  sizeByte := by kernel_rfl
  neB5 := by decide
theorem bextraJ : Builder.Extra Tryz.prog Tryz.lays156_ren where
  sizeBuilder := by kernel_rfl
  liesBuilder := by kernel_rfl
  t5 := Tryz.underlying5
  a5 := Tryz.isAgg5
  z5 := Tryz.sizeOf5
  v5 := Tryz.zeroValue5
  infoByte := by kernel_rfl
  cellsByte := by kernel_rfl
  sizeByte := by kernel_rfl
  neB5 := by decide
/-- A builder at block b that holds these bytes; all it has made lies from block B on. -/
def Bld (B b : Nat) (l : List UInt8) (w : World) : Prop := Lib.IsBuilder 59 5 B b (Lib.byteCells l) w
theorem wstr_any (B b : Nat) (l : List UInt8) (s : ByteArray) (w : World) (h : Bld B b l w) (hlen : l.length + s.size ≤ 140737488355328) (hB : B ≤ w.heap.size) :
    Calls Tryz.prog 30 #[.pointer (some ⟨b, 0, none⟩), .string s] w fun e w' => e = .returned (.tuple #[.int .i64 s.size, .nilIface]) ∧ Bld B b (l ++ bs s) w' ∧ Below B w w' := by
  refine (Any.Builder_WriteString bl166 bextra B b (Lib.byteCells l) s w h (by rw [Lib.byteCells, List.length_map]; exact hlen) hB).mono ?_
  rintro e w' ⟨rfl, h1, h2⟩
  refine ⟨rfl, .inr ?_, h2⟩
  rw [show Lib.byteCells (l ++ bs s) = Lib.byteCells l ++ Lib.strCells s from by simp [Lib.byteCells, Lib.strCells, bs]]
  exact h1
theorem bstr_any (B b : Nat) (l : List UInt8) (w : World) (h : Bld B b l w) (hB : B ≤ w.heap.size) :
    Calls Tryz.prog 33 #[.pointer (some ⟨b, 0, none⟩)] w fun e w' => e = .returned (.string (mk l)) ∧ Below B w w' :=
  Any.Builder_String_any bl169 bextra B b l w h hB
theorem Bld.new (w : World) (B : Nat) (hB : B ≤ w.heap.size) : Bld B w.heap.size [] (w.alloc (.cells #[.pointer none, .slice none 0 0] 59)) :=
  .inl ⟨hB, _, World.alloc_heap_new w _, World.ownsRow_nil _ _ _ _, by simp [Value.ownBlock]⟩
theorem Bld.keep {B b : Nat} {l : List UInt8} {w w' : World} (h : Bld B b l w) (hb : Below w.heap.size w w') (_ : B ≤ w.heap.size) : Bld B b l w' := by
  have key : ∀ p, Lib.BuilderAt 59 5 B b p (Lib.byteCells l) w → Lib.BuilderAt 59 5 B b p (Lib.byteCells l) w' := by
    rintro p ⟨h1, v, h2, h3, h4⟩
    refine ⟨h1, v, (hb.block b (Array.getElem?_eq_some_iff.1 h2).1).trans h2, ?_, h4⟩
    obtain ⟨e1, ⟨rfl, e2⟩ | ⟨g, cap, cur, rfl, k1, k2, k3⟩⟩ := h3
    · exact ⟨e1, .inl ⟨rfl, e2⟩⟩
    · exact ⟨e1, .inr ⟨g, cap, cur, rfl, k1, (hb.block g (Array.getElem?_eq_some_iff.1 k2).1).trans k2, k3⟩⟩
  rcases h with h | h
  · exact .inl (key _ h)
  · exact .inr (key _ h)

theorem join2 (x y : ByteArray) : (Lib.join ([x, y].map (·.data.toList)) [61]) = bs x ++ 61 :: bs y := by
  simp [Lib.join, bs]
theorem ljoin2 (k : Nat) (x y : ByteArray) (w : World) (h0 : w.cell? ⟨k, 0, none⟩ = some (.string x)) (h1 : w.cell? ⟨k, 1, none⟩ = some (.string y)) (hk : k < w.heap.size) (hl : x.size + y.size ≤ 1000000) :
    Calls Tryz.prog 31 #[.slice (some ⟨k, 0, none⟩) 2 2, .string ⟨#[61]⟩] w fun e w' => e = .returned (.string (mk (bs x ++ 61 :: bs y))) ∧ Below w.heap.size w w' := by
  refine (Any.strings_Join Tryz.lays156 bextraJ k 0 2 [x, y] ⟨#[61]⟩ w ?_ hk (by simp) (by simp) ?_).mono ?_
  · intro j z hz
    rw [Nat.zero_add]
    match j with
    | 0 => cases hz; exact h0
    | 1 => cases hz; exact h1
    | j + 2 => simp at hz
  · rw [show (⟨#[61]⟩ : ByteArray).data.toList = [61] from rfl, join2, List.length_append, List.length_cons, ← size_bs, ← size_bs]
    omega
  · rintro e w' ⟨rfl, hb⟩
    exact ⟨by rw [show (⟨#[61]⟩ : ByteArray).data.toList = [61] from rfl, join2]; rfl, hb⟩
theorem ljoin1 (k : Nat) (x : ByteArray) (w : World) (h0 : w.cell? ⟨k, 0, none⟩ = some (.string x)) :
    Calls Tryz.prog 31 #[.slice (some ⟨k, 0, none⟩) 1 1, .string ⟨#[61]⟩] w fun e w' => e = .returned (.string x) ∧ w = w' := by
  refine (Any.strings_Join_one Tryz.lays156 bextraJ k 0 1 x ⟨#[61]⟩ w h0).mono ?_
  rintro e w' ⟨rfl, rfl⟩
  exact ⟨rfl, rfl⟩
/-- What is written, if it is. -/
def ifL (c : Bool) (l : List UInt8) : List UInt8 := if c then 59 :: 32 :: l else []
def SAY (B b : Nat) (l : List UInt8) (W : World) (e : Ending) (w' : World) : Prop := e = .returned (.tuple #[]) ∧ Bld B b l w' ∧ Below B W w'
set_option maxRecDepth 100000 in
theorem say2g (c : Bool) (x y : ByteArray) (B b : Nat) (l : List UInt8) (k : Nat) (W0 : World) (h1 : Bld B b l W0) (hB : B ≤ W0.heap.size) (hc0 : W0.cell? ⟨k, 0, none⟩ = some (.string x)) (hc1 : W0.cell? ⟨k, 1, none⟩ = some (.string y)) (hk : k < W0.heap.size) (hl : l.length ≤ 1000000) (hxy : x.size + y.size ≤ 1000000) :
    Calls Tryz.prog 29 #[.bool c, .slice (some ⟨k, 0, none⟩) 2 2, .pointer (some ⟨b, 0, none⟩)] W0 (SAY B b (l ++ ifL c (bs x ++ 61 :: bs y)) W0) := by
  have hbB : Below B W0 W0 := Below.refl _ _
  have H1 := Lib.hid h1
  have HC := Lib.hid (And.intro hc0 hc1)
  have HB := Lib.hid hbB
  clear h1 hc0 hc1 hbB
  cases c
  · go_enter Tryz.func29, Tryz.ntmps29
    go_wp2_with fail
    go_end0
    refine ⟨rfl, ?_, HB.out⟩
    unfold ifL
    rw [if_neg (by decide), List.append_nil]
    exact H1.out
  · have HE := Lib.hid (show bs ((⟨#[59, 32]⟩ : ByteArray) ++ mk (bs x ++ 61 :: bs y)) = ifL true (bs x ++ 61 :: bs y) by rw [bs_append, bs_mk]; rfl)
    have hz : ((⟨#[59, 32]⟩ : ByteArray) ++ mk (bs x ++ 61 :: bs y)).size = x.size + y.size + 3 := by rw [size_bs, HE.out]; unfold ifL; rw [if_pos rfl, List.length_cons, List.length_cons, List.length_append, List.length_cons, ← size_bs, ← size_bs]; omega
    have hz2 : (mk (bs x ++ 61 :: bs y)).size = x.size + y.size + 1 := by rw [size_mk, List.length_append, List.length_cons, ← size_bs, ← size_bs]; omega
    have HJ := Lib.hid (ljoin2 k x y W0 HC.out.1 HC.out.2 hk hxy)
    generalize mk (bs x ++ 61 :: bs y) = j at *
    go_enter Tryz.func29, Tryz.ntmps29
    go_wp2_with fail
    refine HJ.out.mono ?_
    rintro e w1 ⟨rfl, hb1⟩
    have H2 := Lib.hid (H1.out.keep hb1 (by omega))
    have hs1 := hb1.size
    have HB1 := Lib.hid (HB.out.trans (hb1.mono (show B ≤ _ by omega)))
    clear hb1
    go_wp2_with fail
    refine (wstr_any B b l _ _ H2.out (by rw [hz]; omega) (by omega)).mono ?_
    rintro e w2 ⟨rfl, hA, hb2⟩
    rw [HE.out] at hA
    have HA := Lib.hid hA
    have HB2 := Lib.hid (HB1.out.trans hb2)
    clear hA hb2
    go_wp2_with fail
    go_end0
    exact ⟨rfl, HA.out, HB2.out⟩
theorem say2 (c : Bool) (x y : ByteArray) (B b : Nat) (l : List UInt8) (W : World) (T : TypeId) (h : Bld B b l W) (hB : B ≤ W.heap.size) (hl : l.length ≤ 1000000) (hxy : x.size + y.size ≤ 1000000) :
    Calls Tryz.prog 29 #[.bool c, .slice (some ⟨W.heap.size, 0, none⟩) 2 2, .pointer (some ⟨b, 0, none⟩)] (W.alloc (.cells #[.string x, .string y] T)) (SAY B b (l ++ ifL c (bs x ++ 61 :: bs y)) W) := by
  have hb0 := (Below.refl W.heap.size W).alloc (Nat.le_refl _) (.cells #[.string x, .string y] T)
  refine (say2g c x y B b l W.heap.size _ (h.keep hb0 hB) (Nat.le_trans hB hb0.size) (hcellNew W [.string x, .string y] T 0) (hcellNew W [.string x, .string y] T 1) (by rw [World.size_alloc]; omega) hl hxy).mono ?_
  rintro e w' ⟨h1, h2, h3⟩
  exact ⟨h1, h2, (hb0.mono hB).trans h3⟩
theorem say2d (c : Bool) (x y : ByteArray) (B b : Nat) (l : List UInt8) (W : World) (T : TypeId) (h : Bld B b l W) (hB : B ≤ W.heap.size) (hl : l.length ≤ 1000000) (hxy : x.size + y.size ≤ 1000000) :
    Calls Tryz.prog 29 #[.bool c, .slice (some ⟨W.heap.size, 0, none⟩) 2 2, .pointer (some ⟨b, 0, none⟩)] (W.alloc (.cells #[.string x, .string y] T)).drew (SAY B b (l ++ ifL c (bs x ++ 61 :: bs y)) W) := by
  have hb0 := ((Below.refl W.heap.size W).alloc (Nat.le_refl _) (.cells #[.string x, .string y] T)).drew
  refine (say2g c x y B b l W.heap.size _ (h.keep hb0 hB) (Nat.le_trans hB hb0.size) (hcellNew W [.string x, .string y] T 0) (hcellNew W [.string x, .string y] T 1) (by show W.heap.size < (W.alloc (.cells #[.string x, .string y] T)).heap.size; rw [World.size_alloc]; omega) hl hxy).mono ?_
  rintro e w' ⟨h1, h2, h3⟩
  exact ⟨h1, h2, (hb0.mono hB).trans h3⟩
set_option maxRecDepth 100000 in
theorem say1 (c : Bool) (x : ByteArray) (B b : Nat) (l : List UInt8) (W : World) (T : TypeId) (h : Bld B b l W) (hB : B ≤ W.heap.size) (hl : l.length ≤ 1000000) (hxy : x.size ≤ 1000000) :
    Calls Tryz.prog 29 #[.bool c, .slice (some ⟨W.heap.size, 0, none⟩) 1 1, .pointer (some ⟨b, 0, none⟩)] (W.alloc (.cells #[.string x] T)) (SAY B b (l ++ ifL c (bs x)) W) := by
  have hb0 := (Below.refl W.heap.size W).alloc (Nat.le_refl _) (.cells #[.string x] T)
  have h1 := h.keep hb0 hB
  have hc0 := hcellNew W [.string x] T 0
  have hsz : (W.alloc (.cells #[.string x] T)).heap.size = W.heap.size + 1 := World.size_alloc ..
  have hbB : Below B W (W.alloc (.cells #[.string x] T)) := hb0.mono hB
  generalize W.alloc (.cells #[.string x] T) = W0 at *
  have H1 := Lib.hid h1
  have HC := Lib.hid hc0
  have HB := Lib.hid hbB
  clear h h1 hc0 hb0 hbB
  cases c
  · go_enter Tryz.func29, Tryz.ntmps29
    go_wp2_with fail
    go_end0
    refine ⟨rfl, ?_, HB.out⟩
    unfold ifL
    rw [if_neg (by decide), List.append_nil]
    exact H1.out
  · have HE := Lib.hid (show bs ((⟨#[59, 32]⟩ : ByteArray) ++ x) = ifL true (bs x) by rw [bs_append]; rfl)
    have hz : ((⟨#[59, 32]⟩ : ByteArray) ++ x).size = x.size + 2 := by rw [size_bs, HE.out]; unfold ifL; rw [if_pos rfl, List.length_cons, List.length_cons, ← size_bs]
    have HJ := Lib.hid (ljoin1 W.heap.size x W0 HC.out)
    go_enter Tryz.func29, Tryz.ntmps29
    go_wp2_with fail
    refine HJ.out.mono ?_
    rintro e w1 ⟨rfl, rfl⟩
    go_wp2_with fail
    refine (wstr_any B b l _ _ H1.out (by rw [hz]; omega) (by omega)).mono ?_
    rintro e w2 ⟨rfl, hA, hb2⟩
    rw [HE.out] at hA
    have HA := Lib.hid hA
    have HB2 := Lib.hid (HB.out.trans hb2)
    clear hA hb2
    go_wp2_with fail
    go_end0
    exact ⟨rfl, HA.out, HB2.out⟩
end Go.Proofs.YtngamlikhgilhaaGreatDoor
/- Contract of header.Print. -/
namespace Go.Proofs.YtngamlikhgilhaaGreatDoor
open Go.RowKit Go.Shelf

def IsWhen (t : Int) (x : ByteArray) : Prop := ∃ k y m d h n s : Nat, CkN t y (m + 1) d h n s ∧ m < 12 ∧ k < 7 ∧ wday (num y ((m : Int) + 1) d) = k ∧ x = imfS k d m y h n s
theorem IsWhen.uniq {t : Int} {x y : ByteArray} (a : IsWhen t x) (b : IsWhen t y) : x = y := by
  obtain ⟨k, y1, m, d, h, n, s, h1, h2, h3, h4, rfl⟩ := a
  obtain ⟨k', y', m', d', h', n', s', g1, g2, g3, g4, rfl⟩ := b
  obtain ⟨rfl, e1, rfl, rfl, rfl, rfl⟩ := h1.uniq g1
  obtain rfl : m = m' := by omega
  obtain rfl : k = k' := by
    have := h4.symm.trans g4
    omega
  rfl
theorem IsWhen.size {t : Int} {x : ByteArray} (a : IsWhen t x) : x.size = 29 := by
  obtain ⟨k, y1, m, d, h, n, s, h1, h2, h3, h4, rfl⟩ := a
  exact imfS_size _ _ _ _ _ _ _ h3 h2
theorem imf_when (t : Int) (w : World) (h1 : 0 ≤ t) (h2 : t ≤ 253402300799) : Calls Tryz.prog 32 #[.int .i64 t] w fun e w' => (∃ x, IsWhen t x ∧ e = .returned (.tuple #[.string x, .bool true])) ∧ Below w.heap.size w w' := by
  refine (imf_yes t w h1 h2).mono ?_
  rintro e w' ⟨k, y, m, d, h, n, s, h1, h2, h3, h4, rfl, h5⟩
  exact ⟨⟨_, ⟨k, y, m, d, h, n, s, h1, h2, h3, h4, rfl⟩, rfl⟩, h5⟩
def dOMt : List UInt8 := [68, 111, 109, 97, 105, 110]
def pTHt : List UInt8 := [80, 97, 116, 104]
def eXPt : List UInt8 := [69, 120, 112, 105, 114, 101, 115]
def sECt : List UInt8 := [83, 101, 99, 117, 114, 101]
def hTOt : List UInt8 := [72, 116, 116, 112, 79, 110, 108, 121]
def sSTt : List UInt8 := [83, 97, 109, 101, 83, 105, 116, 101]
def siteT (n : Int) : ByteArray := if n = 1 then ⟨#[76, 97, 120]⟩ else if n = 2 then ⟨#[83, 116, 114, 105, 99, 116]⟩ else if n = 3 then ⟨#[78, 111, 110, 101]⟩ else ⟨#[]⟩
/-- A header's text; x: when it expires. -/
def printL (h : Hd) (x : ByteArray) : List UInt8 :=
  bs h.nm ++ 61 :: bs h.vl ++ ifL (!h.dm.toList.isEmpty) (dOMt ++ 61 :: bs h.dm) ++ ifL (!h.pt.toList.isEmpty) (pTHt ++ 61 :: bs h.pt) ++ ifL (!(h.ex == 0)) (eXPt ++ 61 :: bs x)
    ++ ifL h.se sECt ++ ifL h.ho hTOt ++ ifL (!(h.st == 0)) (sSTt ++ 61 :: bs (siteT h.st))
theorem ifL_len (c : Bool) (l : List UInt8) : (ifL c l).length ≤ l.length + 2 := by
  unfold ifL
  split
  · simp
  · simp
/-- Print's memory: the header, the builder at b. -/
structure PS (w : World) (b : Nat) (W : World) (h : Hd) (l : List UInt8) : Prop where
  hd : BS w W h
  bld : Bld b b l W
  lt : w.heap.size + 1 ≤ b
  sz : b ≤ W.heap.size
theorem PS.keep {w W W' : World} {b : Nat} {h : Hd} {l : List UInt8} (H : PS w b W h l) (hb : Below W.heap.size W W') : PS w b W' h l :=
  ⟨H.hd.keep (hb.mono H.hd.sz), H.bld.keep hb H.sz, H.lt, Nat.le_trans H.sz hb.size⟩
theorem PS.write {w W W' : World} {b : Nat} {h : Hd} {l m : List UInt8} (H : PS w b W h l) (hl : Bld b b m W') (hb : Below b W W') : PS w b W' h m :=
  ⟨H.hd.keep (hb.mono H.lt), hl, H.lt, Nat.le_trans H.sz hb.size⟩
theorem PS.new {w W : World} {h : Hd} (H : BS w W h) : PS w W.heap.size (W.alloc (.cells #[.pointer none, .slice none 0 0] 59)) h [] :=
  ⟨H.keep (((Below.refl W.heap.size W).alloc (Nat.le_refl _) _).mono H.sz), Bld.new W W.heap.size (Nat.le_refl _), H.sz, by rw [World.size_alloc]; omega⟩
theorem sel_0 (W : World) : (Instr.index 68 (.agg #[.string ⟨#[]⟩, .string ⟨#[76, 97, 120]⟩, .string ⟨#[83, 116, 114, 105, 99, 116]⟩, .string ⟨#[78, 111, 110, 101]⟩]) (.int .i64 0)).run Tryz.prog W = .ok (.string ⟨#[]⟩) W := by kernel_rfl
theorem sel_1 (W : World) : (Instr.index 68 (.agg #[.string ⟨#[]⟩, .string ⟨#[76, 97, 120]⟩, .string ⟨#[83, 116, 114, 105, 99, 116]⟩, .string ⟨#[78, 111, 110, 101]⟩]) (.int .i64 1)).run Tryz.prog W = .ok (.string ⟨#[76, 97, 120]⟩) W := by kernel_rfl
theorem sel_2 (W : World) : (Instr.index 68 (.agg #[.string ⟨#[]⟩, .string ⟨#[76, 97, 120]⟩, .string ⟨#[83, 116, 114, 105, 99, 116]⟩, .string ⟨#[78, 111, 110, 101]⟩]) (.int .i64 2)).run Tryz.prog W = .ok (.string ⟨#[83, 116, 114, 105, 99, 116]⟩) W := by kernel_rfl
theorem sel_3 (W : World) : (Instr.index 68 (.agg #[.string ⟨#[]⟩, .string ⟨#[76, 97, 120]⟩, .string ⟨#[83, 116, 114, 105, 99, 116]⟩, .string ⟨#[78, 111, 110, 101]⟩]) (.int .i64 3)).run Tryz.prog W = .ok (.string ⟨#[78, 111, 110, 101]⟩) W := by kernel_rfl
def PRT (h : Hd) (w : World) (e : Ending) (w' : World) : Prop := Below w.heap.size w w' ∧ ((rightB h = false ∧ e = .returned (.tuple #[.string ⟨#[]⟩, .bool false])) ∨ (rightB h = true ∧ ∃ x, IsWhen h.ex x ∧ e = .returned (.tuple #[.string (mk (printL h x)), .bool true])))
set_option maxRecDepth 100000 in
theorem print_no (nm vl dm pt : ByteArray) (ex : Int) (se ho : Bool) (st : Int) (w : World) (h1 : nm.size + vl.size ≤ 1000) (h2 : dm.size + pt.size ≤ 1000) (hm : HasMax w) (hr : rightB ⟨nm, vl, dm, pt, ex, se, ho, st⟩ = false) :
    Calls Tryz.prog 10 #[.agg #[.string nm, .string vl, .string dm, .string pt, .int .i64 ex, .bool se, .bool ho, .int .i64 st]] w (PRT ⟨nm, vl, dm, pt, ex, se, ho, st⟩ w) := by
  have HR := Lib.hid hr
  have HM := Lib.hid hm
  clear hm hr
  go_enter Tryz.func10, Tryz.ntmps10
  go_wp2_with fail
  refine (right_all ⟨nm, vl, dm, pt, ex, se, ho, st⟩ _ (by dsimp only; omega) (by dsimp only; omega) (by dsimp only; omega) (by dsimp only; omega) (max_alloc HM.out _)).mono ?_
  rintro e w1 ⟨rfl, hb1⟩
  rw [HR.out]
  have B1 := Lib.hid ((BS.new w ⟨nm, vl, dm, pt, ex, se, ho, st⟩ 24).keep (hb1.mono (by rw [World.size_alloc]; exact Nat.le_refl _)))
  clear hb1
  go_wp2_with fail
  go_ret2
  exact ⟨B1.out.bel, .inl ⟨HR.out, rfl⟩⟩
set_option maxHeartbeats 2000000 in
set_option maxRecDepth 100000 in
theorem print_yes (nm vl dm pt : ByteArray) (ex : Int) (se ho : Bool) (st : Int) (w : World) (h1 : nm.size + vl.size ≤ 1000) (h2 : dm.size + pt.size ≤ 1000) (hm : HasMax w) (hr : rightB ⟨nm, vl, dm, pt, ex, se, ho, st⟩ = true) :
    Calls Tryz.prog 10 #[.agg #[.string nm, .string vl, .string dm, .string pt, .int .i64 ex, .bool se, .bool ho, .int .i64 st]] w (PRT ⟨nm, vl, dm, pt, ex, se, ho, st⟩ w) := by
  have hn : 0 ≤ ex ∧ ex ≤ 253402300799 ∧ 0 ≤ st ∧ st ≤ 3 := by
    have hr' := hr
    unfold rightB numB at hr'
    simp only [Bool.and_eq_true, decide_eq_true_eq] at hr'
    exact ⟨hr'.2.1.1.1, hr'.2.1.1.2, hr'.2.1.2, hr'.2.2⟩
  obtain ⟨hx0, hx1, hs0, hs1⟩ := hn
  have HR := Lib.hid hr
  have HM := Lib.hid hm
  clear hm hr
  go_enter Tryz.func10, Tryz.ntmps10
  go_wp2_with fail
  refine (right_all ⟨nm, vl, dm, pt, ex, se, ho, st⟩ _ (by dsimp only; omega) (by dsimp only; omega) (by dsimp only; omega) (by dsimp only; omega) (max_alloc HM.out _)).mono ?_
  rintro e w1 ⟨rfl, hb1⟩
  rw [HR.out]
  have B1 := Lib.hid ((BS.new w ⟨nm, vl, dm, pt, ex, se, ho, st⟩ 24).keep (hb1.mono (by rw [World.size_alloc]; exact Nat.le_refl _)))
  clear hb1
  go_upto_region 5 with fail
  have S0 := Lib.hid (PS.new B1.out)
  generalize w1.alloc (.cells #[.pointer none, .slice none 0 0] 59) = v0 at *
  generalize w1.heap.size = b at *
  clear B1
  have k1 := S0.out.lt
  have hz0 : ([] : List UInt8).length + (nm ++ (⟨#[61]⟩ : ByteArray) ++ vl).size ≤ 140737488355328 := by
    have e1 : (⟨#[61]⟩ : ByteArray).size = 1 := rfl
    rw [ByteArray.size_append, ByteArray.size_append, e1, List.length_nil]
    omega
  obtain ⟨c0, c1, c2, c3, c4, c5, c6, c7⟩ := S0.out.hd.cells
  dsimp only at c0 c1 c2 c3 c4 c5 c6 c7
  go_wp2_with fail
  refine (wstr_any b b [] (nm ++ (⟨#[61]⟩ : ByteArray) ++ vl) v0 S0.out.bld hz0 S0.out.sz).mono ?_
  rintro e v1 ⟨rfl, hl, hb⟩
  obtain ⟨L0, hL0⟩ : ∃ L, L = bs nm ++ 61 :: bs vl := ⟨_, rfl⟩
  rw [show ([] : List UInt8) ++ bs (nm ++ (⟨#[61]⟩ : ByteArray) ++ vl) = L0 by rw [hL0, bs_append, bs_append, List.nil_append]; simp [bs]] at hl
  have n0 : L0.length ≤ 1001 := by rw [hL0, List.length_append, List.length_cons, ← size_bs, ← size_bs]; omega
  have S1 := Lib.hid (S0.out.write hl hb)
  have HL0 := Lib.hid hL0
  clear S0 hl hb hL0 c0 c1 c2 c3 c4 c5 c6 c7
  obtain ⟨c0, c1, c2, c3, c4, c5, c6, c7⟩ := S1.out.hd.cells
  dsimp only at c0 c1 c2 c3 c4 c5 c6 c7
  go_wp2_with fail
  refine (imf_when ex _ hx0 hx1).mono ?_
  rintro e v2 ⟨⟨x, hx, rfl⟩, hb⟩
  have hx29 := hx.size
  have HX := Lib.hid hx
  have S2 := Lib.hid (S1.out.keep hb)
  clear S1 hx hb c0 c1 c2 c3 c4 c5 c6 c7
  obtain ⟨c0, c1, c2, c3, c4, c5, c6, c7⟩ := S2.out.hd.cells
  dsimp only at c0 c1 c2 c3 c4 c5 c6 c7
  go_wp2_with fail
  have e1 : (⟨#[68, 111, 109, 97, 105, 110]⟩ : ByteArray).size + dm.size ≤ 1000000 := by
    have e1 : (⟨#[68, 111, 109, 97, 105, 110]⟩ : ByteArray).size = 6 := rfl
    rw [e1]
    omega
  refine (say2 (!dm.toList.isEmpty) (⟨#[68, 111, 109, 97, 105, 110]⟩ : ByteArray) dm b b L0 v2 9 S2.out.bld S2.out.sz (by omega) e1).mono ?_
  rintro e v3 ⟨rfl, hl, hb⟩
  obtain ⟨L1, hL⟩ : ∃ L, L = L0 ++ ifL (!dm.toList.isEmpty) (dOMt ++ 61 :: bs dm) := ⟨_, rfl⟩
  rw [show L0 ++ ifL (!dm.toList.isEmpty) (bs (⟨#[68, 111, 109, 97, 105, 110]⟩ : ByteArray) ++ 61 :: bs dm) = L1 from hL.symm] at hl
  have n1 : L1.length ≤ 3000 := by
    have z1 := ifL_len (!dm.toList.isEmpty) (dOMt ++ 61 :: bs dm)
    have z2 : (dOMt ++ 61 :: bs dm).length = 6 + (dm.size + 1) := by rw [List.length_append, List.length_cons, ← size_bs]; rfl
    rw [hL, List.length_append]
    omega
  have S3 := Lib.hid (S2.out.write hl hb)
  have HL1 := Lib.hid hL
  clear S2 hl hb hL c0 c1 c2 c3 c4 c5 c6 c7
  obtain ⟨c0, c1, c2, c3, c4, c5, c6, c7⟩ := S3.out.hd.cells
  dsimp only at c0 c1 c2 c3 c4 c5 c6 c7
  go_wp2_with fail
  have e2 : (⟨#[80, 97, 116, 104]⟩ : ByteArray).size + pt.size ≤ 1000000 := by
    have e1 : (⟨#[80, 97, 116, 104]⟩ : ByteArray).size = 4 := rfl
    rw [e1]
    omega
  refine (say2 (!pt.toList.isEmpty) (⟨#[80, 97, 116, 104]⟩ : ByteArray) pt b b L1 v3 9 S3.out.bld S3.out.sz (by omega) e2).mono ?_
  rintro e v4 ⟨rfl, hl, hb⟩
  obtain ⟨L2, hL⟩ : ∃ L, L = L1 ++ ifL (!pt.toList.isEmpty) (pTHt ++ 61 :: bs pt) := ⟨_, rfl⟩
  rw [show L1 ++ ifL (!pt.toList.isEmpty) (bs (⟨#[80, 97, 116, 104]⟩ : ByteArray) ++ 61 :: bs pt) = L2 from hL.symm] at hl
  have n2 : L2.length ≤ 5000 := by
    have z1 := ifL_len (!pt.toList.isEmpty) (pTHt ++ 61 :: bs pt)
    have z2 : (pTHt ++ 61 :: bs pt).length = 4 + (pt.size + 1) := by rw [List.length_append, List.length_cons, ← size_bs]; rfl
    rw [hL, List.length_append]
    omega
  have S4 := Lib.hid (S3.out.write hl hb)
  have HL2 := Lib.hid hL
  clear S3 hl hb hL c0 c1 c2 c3 c4 c5 c6 c7
  obtain ⟨c0, c1, c2, c3, c4, c5, c6, c7⟩ := S4.out.hd.cells
  dsimp only at c0 c1 c2 c3 c4 c5 c6 c7
  go_wp2_with fail
  have e3 : (⟨#[69, 120, 112, 105, 114, 101, 115]⟩ : ByteArray).size + x.size ≤ 1000000 := by
    have e1 : (⟨#[69, 120, 112, 105, 114, 101, 115]⟩ : ByteArray).size = 7 := rfl
    rw [e1]
    omega
  refine (say2 (!(ex == 0)) (⟨#[69, 120, 112, 105, 114, 101, 115]⟩ : ByteArray) x b b L2 v4 9 S4.out.bld S4.out.sz (by omega) e3).mono ?_
  rintro e v5 ⟨rfl, hl, hb⟩
  obtain ⟨L3, hL⟩ : ∃ L, L = L2 ++ ifL (!(ex == 0)) (eXPt ++ 61 :: bs x) := ⟨_, rfl⟩
  rw [show L2 ++ ifL (!(ex == 0)) (bs (⟨#[69, 120, 112, 105, 114, 101, 115]⟩ : ByteArray) ++ 61 :: bs x) = L3 from hL.symm] at hl
  have n3 : L3.length ≤ 6000 := by
    have z1 := ifL_len (!(ex == 0)) (eXPt ++ 61 :: bs x)
    have z2 : (eXPt ++ 61 :: bs x).length = 7 + (x.size + 1) := by rw [List.length_append, List.length_cons, ← size_bs]; rfl
    rw [hL, List.length_append]
    omega
  have S5 := Lib.hid (S4.out.write hl hb)
  have HL3 := Lib.hid hL
  clear S4 hl hb hL c0 c1 c2 c3 c4 c5 c6 c7
  obtain ⟨c0, c1, c2, c3, c4, c5, c6, c7⟩ := S5.out.hd.cells
  dsimp only at c0 c1 c2 c3 c4 c5 c6 c7
  go_wp2_with fail
  have e4 : (⟨#[83, 101, 99, 117, 114, 101]⟩ : ByteArray).size ≤ 1000000 := by
    have e1 : (⟨#[83, 101, 99, 117, 114, 101]⟩ : ByteArray).size = 6 := rfl
    rw [e1]
    omega
  refine (say1 (se) (⟨#[83, 101, 99, 117, 114, 101]⟩ : ByteArray) b b L3 v5 9 S5.out.bld S5.out.sz (by omega) e4).mono ?_
  rintro e v6 ⟨rfl, hl, hb⟩
  obtain ⟨L4, hL⟩ : ∃ L, L = L3 ++ ifL (se) sECt := ⟨_, rfl⟩
  rw [show L3 ++ ifL (se) (bs (⟨#[83, 101, 99, 117, 114, 101]⟩ : ByteArray)) = L4 from hL.symm] at hl
  have n4 : L4.length ≤ 7000 := by
    have z1 := ifL_len (se) sECt
    have z2 : sECt.length = 6 := rfl
    rw [hL, List.length_append]
    omega
  have S6 := Lib.hid (S5.out.write hl hb)
  have HL4 := Lib.hid hL
  clear S5 hl hb hL c0 c1 c2 c3 c4 c5 c6 c7
  obtain ⟨c0, c1, c2, c3, c4, c5, c6, c7⟩ := S6.out.hd.cells
  dsimp only at c0 c1 c2 c3 c4 c5 c6 c7
  go_wp2_with fail
  have e5 : (⟨#[72, 116, 116, 112, 79, 110, 108, 121]⟩ : ByteArray).size ≤ 1000000 := by
    have e1 : (⟨#[72, 116, 116, 112, 79, 110, 108, 121]⟩ : ByteArray).size = 8 := rfl
    rw [e1]
    omega
  refine (say1 (ho) (⟨#[72, 116, 116, 112, 79, 110, 108, 121]⟩ : ByteArray) b b L4 v6 9 S6.out.bld S6.out.sz (by omega) e5).mono ?_
  rintro e v7 ⟨rfl, hl, hb⟩
  obtain ⟨L5, hL⟩ : ∃ L, L = L4 ++ ifL (ho) hTOt := ⟨_, rfl⟩
  rw [show L4 ++ ifL (ho) (bs (⟨#[72, 116, 116, 112, 79, 110, 108, 121]⟩ : ByteArray)) = L5 from hL.symm] at hl
  have n5 : L5.length ≤ 8000 := by
    have z1 := ifL_len (ho) hTOt
    have z2 : hTOt.length = 8 := rfl
    rw [hL, List.length_append]
    omega
  have S7 := Lib.hid (S6.out.write hl hb)
  have HL5 := Lib.hid hL
  clear S6 hl hb hL c0 c1 c2 c3 c4 c5 c6 c7
  obtain ⟨c0, c1, c2, c3, c4, c5, c6, c7⟩ := S7.out.hd.cells
  dsimp only at c0 c1 c2 c3 c4 c5 c6 c7
  go_wp2_with fail
  have hst : st = 0 ∨ st = 1 ∨ st = 2 ∨ st = 3 := by omega
  rcases hst with rfl | rfl | rfl | rfl
  · have e6 : (⟨#[83, 97, 109, 101, 83, 105, 116, 101]⟩ : ByteArray).size + (⟨#[]⟩ : ByteArray).size ≤ 1000000 := by
      have e1 : (⟨#[83, 97, 109, 101, 83, 105, 116, 101]⟩ : ByteArray).size = 8 := rfl
      have e2 : (⟨#[]⟩ : ByteArray).size = 0 := rfl
      rw [e1, e2]
      omega
    have SD := Lib.hid (S7.out.keep (Below.drew (Below.refl v7.heap.size v7)))
    have HC := Lib.hid (say2 false (⟨#[83, 97, 109, 101, 83, 105, 116, 101]⟩ : ByteArray) (⟨#[]⟩ : ByteArray) b b L5 v7.drew 9 SD.out.bld SD.out.sz (by omega) e6)
    have c7d : v7.drew.cell? ⟨w.heap.size, 7, none⟩ = some (.int .i64 0) := c7
    have hsel := sel_0
    · refine wp_region_held_drew (S := fun W => W.cell? ⟨w.heap.size, 7, none⟩ = some (.int .i64 0)) (by kernel_rfl) c7d (fun hHeld => ?_)
      refine wpAnyH_take (i := 0) (v := ?_) rfl (by kernel_rfl) (by kernel_rfl) (by kernel_rfl) (fun _ _ _ h => h) (Or.inl ⟨by rfl, ?_⟩) (by assumption) ?_
      rotate_left
      · (intro w hSw; go_simp; try with_reducible rfl)
      try simp only [List.getElem_toArray, List.getElem_cons_zero, Act.put, List.setIfInBounds_toArray, List.set_cons_zero, List.set_cons_succ]
      refine wpAnyH_take (i := 1) (v := ?_) rfl (by kernel_rfl) (by kernel_rfl) (by kernel_rfl) (fun _ _ _ h => h) (Or.inl ⟨by rfl, ?_⟩) (by assumption) ?_
      rotate_left
      · (intro w hSw; go_simp; try with_reducible rfl)
      try simp only [List.getElem_toArray, List.getElem_cons_succ, List.getElem_cons_zero, Act.put, List.setIfInBounds_toArray, List.set_cons_zero, List.set_cons_succ]
      refine wpAnyH_take (i := 2) (v := ?_) rfl (by kernel_rfl) (by kernel_rfl) (by kernel_rfl) (fun _ _ _ h => h) (Or.inl ⟨by rfl, ?_⟩) (by assumption) ?_
      rotate_left
      · (intro w hSw; go_simp; try with_reducible rfl)
      try simp only [List.getElem_toArray, List.getElem_cons_succ, List.getElem_cons_zero, Act.put, List.setIfInBounds_toArray, List.set_cons_zero, List.set_cons_succ]
      refine wpAnyH_take (i := 3) (v := ?_) rfl (by kernel_rfl) (by kernel_rfl) (by kernel_rfl) (fun _ _ _ h => h) (Or.inl ⟨by rfl, ?_⟩) (by assumption) ?_
      rotate_left
      · (intro w hSw; go_simp; try with_reducible rfl)
      try simp only [List.getElem_toArray, List.getElem_cons_succ, List.getElem_cons_zero, Act.put, List.setIfInBounds_toArray, List.set_cons_zero, List.set_cons_succ]
      refine wpAnyH_take (i := 4) (v := ?_) rfl (by kernel_rfl) (by kernel_rfl) (by kernel_rfl) (fun _ _ _ h => h) (Or.inl ⟨by rfl, ?_⟩) (by assumption) ?_
      rotate_left
      · (intro w hSw; go_simp; try with_reducible rfl)
      try simp only [List.getElem_toArray, List.getElem_cons_succ, List.getElem_cons_zero, Act.put, List.setIfInBounds_toArray, List.set_cons_zero, List.set_cons_succ]
      refine wpAnyH_take (i := 5) (v := ?_) rfl (by kernel_rfl) (by kernel_rfl) (by kernel_rfl) (fun _ _ _ h => h) (Or.inl ⟨by rfl, ?_⟩) (by assumption) ?_
      rotate_left
      · (intro w hSw; go_simp; try with_reducible rfl)
      try simp only [List.getElem_toArray, List.getElem_cons_succ, List.getElem_cons_zero, Act.put, List.setIfInBounds_toArray, List.set_cons_zero, List.set_cons_succ]
      refine wpAnyH_take (i := 6) (v := ?_) rfl (by kernel_rfl) (by kernel_rfl) (by kernel_rfl) (fun _ _ _ h => h) (Or.inl ⟨by rfl, ?_⟩) (by assumption) ?_
      rotate_left
      · (intro w hSw; go_simp; try with_reducible rfl)
      try simp only [List.getElem_toArray, List.getElem_cons_succ, List.getElem_cons_zero, Act.put, List.setIfInBounds_toArray, List.set_cons_zero, List.set_cons_succ]
      refine wpAnyH_take (i := 7) (v := ?_) rfl (by kernel_rfl) (by kernel_rfl) (by kernel_rfl) (fun _ _ _ h => h) (Or.inl ⟨by rfl, ?_⟩) (by assumption) ?_
      rotate_left
      · (intro w hSw; go_simp; try with_reducible rfl)
      try simp only [List.getElem_toArray, List.getElem_cons_succ, List.getElem_cons_zero, Act.put, List.setIfInBounds_toArray, List.set_cons_zero, List.set_cons_succ]
      refine wpAnyH_ready (rs := [8]) (by kernel_rfl) (by simp) ?_
      refine AllReadyH.cons rfl (fun K hK => ?_) AllReadyH.nil
      go_simp
      refine hK.out _ _ ((World.cell?_alloc_some v7.drew ⟨w.heap.size, 7, none⟩ _ (by rw [c7d]; rfl)).trans c7d) (fun hHeld2 => ?_)
      clear hK K
      try simp only [List.getElem_toArray, List.getElem_cons_succ, List.getElem_cons_zero, Act.put, List.setIfInBounds_toArray, List.set_cons_zero, List.set_cons_succ]
      refine wpAnyH_ready (rs := [9]) (by kernel_rfl) (by simp) ?_
      refine AllReadyH.cons rfl (fun K hK => ?_) AllReadyH.nil
      go_simp
      go_at_call 29
      refine HC.out.mono ?_
      rintro e v8 ⟨rfl, hl, hb⟩
      have S8 := Lib.hid (SD.out.write hl hb)
      refine hK.out _ _ (S8.out.hd.cells.2.2.2.2.2.2.2) (fun hHeld3 => ?_)
      clear hK K
      try simp only [List.getElem_toArray, List.getElem_cons_succ, List.getElem_cons_zero, Act.put, List.setIfInBounds_toArray, List.set_cons_zero, List.set_cons_succ]
      refine wpAnyH_done (by kernel_rfl) ?_ _
      go_wp2_with fail
      refine (bstr_any b b _ v8 S8.out.bld S8.out.sz).mono ?_
      rintro e v9 ⟨rfl, hb9⟩
      have B9 := Lib.hid ((S8.out.hd.keep (hb9.mono (by have := S8.out.lt; omega))).bel)
      go_wp2_with fail
      go_ret2
      refine ⟨B9.out, .inr ⟨HR.out, x, HX.out, ?_⟩⟩
      rw [HL5.out, HL4.out, HL3.out, HL2.out, HL1.out, HL0.out]
      rfl
  · have e6 : (⟨#[83, 97, 109, 101, 83, 105, 116, 101]⟩ : ByteArray).size + (⟨#[76, 97, 120]⟩ : ByteArray).size ≤ 1000000 := by
      have e1 : (⟨#[83, 97, 109, 101, 83, 105, 116, 101]⟩ : ByteArray).size = 8 := rfl
      have e2 : (⟨#[76, 97, 120]⟩ : ByteArray).size = 3 := rfl
      rw [e1, e2]
      omega
    have SD := Lib.hid (S7.out.keep (Below.drew (Below.refl v7.heap.size v7)))
    have HC := Lib.hid (say2 true (⟨#[83, 97, 109, 101, 83, 105, 116, 101]⟩ : ByteArray) (⟨#[76, 97, 120]⟩ : ByteArray) b b L5 v7.drew 9 SD.out.bld SD.out.sz (by omega) e6)
    have c7d : v7.drew.cell? ⟨w.heap.size, 7, none⟩ = some (.int .i64 1) := c7
    have hsel := sel_1
    · refine wp_region_held_drew (S := fun W => W.cell? ⟨w.heap.size, 7, none⟩ = some (.int .i64 1)) (by kernel_rfl) c7d (fun hHeld => ?_)
      refine wpAnyH_take (i := 0) (v := ?_) rfl (by kernel_rfl) (by kernel_rfl) (by kernel_rfl) (fun _ _ _ h => h) (Or.inl ⟨by rfl, ?_⟩) (by assumption) ?_
      rotate_left
      · (intro w hSw; go_simp; try with_reducible rfl)
      try simp only [List.getElem_toArray, List.getElem_cons_zero, Act.put, List.setIfInBounds_toArray, List.set_cons_zero, List.set_cons_succ]
      refine wpAnyH_take (i := 1) (v := ?_) rfl (by kernel_rfl) (by kernel_rfl) (by kernel_rfl) (fun _ _ _ h => h) (Or.inl ⟨by rfl, ?_⟩) (by assumption) ?_
      rotate_left
      · (intro w hSw; go_simp; try with_reducible rfl)
      try simp only [List.getElem_toArray, List.getElem_cons_succ, List.getElem_cons_zero, Act.put, List.setIfInBounds_toArray, List.set_cons_zero, List.set_cons_succ]
      refine wpAnyH_take (i := 2) (v := ?_) rfl (by kernel_rfl) (by kernel_rfl) (by kernel_rfl) (fun _ _ _ h => h) (Or.inl ⟨by rfl, ?_⟩) (by assumption) ?_
      rotate_left
      · (intro w hSw; go_simp; try with_reducible rfl)
      try simp only [List.getElem_toArray, List.getElem_cons_succ, List.getElem_cons_zero, Act.put, List.setIfInBounds_toArray, List.set_cons_zero, List.set_cons_succ]
      refine wpAnyH_take (i := 3) (v := ?_) rfl (by kernel_rfl) (by kernel_rfl) (by kernel_rfl) (fun _ _ _ h => h) (Or.inl ⟨by rfl, ?_⟩) (by assumption) ?_
      rotate_left
      · (intro w hSw; go_simp; try with_reducible rfl)
      try simp only [List.getElem_toArray, List.getElem_cons_succ, List.getElem_cons_zero, Act.put, List.setIfInBounds_toArray, List.set_cons_zero, List.set_cons_succ]
      refine wpAnyH_take (i := 4) (v := ?_) rfl (by kernel_rfl) (by kernel_rfl) (by kernel_rfl) (fun _ _ _ h => h) (Or.inl ⟨by rfl, ?_⟩) (by assumption) ?_
      rotate_left
      · (intro w hSw; go_simp; try with_reducible rfl)
      try simp only [List.getElem_toArray, List.getElem_cons_succ, List.getElem_cons_zero, Act.put, List.setIfInBounds_toArray, List.set_cons_zero, List.set_cons_succ]
      refine wpAnyH_take (i := 5) (v := ?_) rfl (by kernel_rfl) (by kernel_rfl) (by kernel_rfl) (fun _ _ _ h => h) (Or.inl ⟨by rfl, ?_⟩) (by assumption) ?_
      rotate_left
      · (intro w hSw; go_simp; try with_reducible rfl)
      try simp only [List.getElem_toArray, List.getElem_cons_succ, List.getElem_cons_zero, Act.put, List.setIfInBounds_toArray, List.set_cons_zero, List.set_cons_succ]
      refine wpAnyH_take (i := 6) (v := ?_) rfl (by kernel_rfl) (by kernel_rfl) (by kernel_rfl) (fun _ _ _ h => h) (Or.inl ⟨by rfl, ?_⟩) (by assumption) ?_
      rotate_left
      · (intro w hSw; go_simp; try with_reducible rfl)
      try simp only [List.getElem_toArray, List.getElem_cons_succ, List.getElem_cons_zero, Act.put, List.setIfInBounds_toArray, List.set_cons_zero, List.set_cons_succ]
      refine wpAnyH_take (i := 7) (v := ?_) rfl (by kernel_rfl) (by kernel_rfl) (by kernel_rfl) (fun _ _ _ h => h) (Or.inl ⟨by rfl, ?_⟩) (by assumption) ?_
      rotate_left
      · (intro w hSw; go_simp; try with_reducible rfl)
      try simp only [List.getElem_toArray, List.getElem_cons_succ, List.getElem_cons_zero, Act.put, List.setIfInBounds_toArray, List.set_cons_zero, List.set_cons_succ]
      refine wpAnyH_ready (rs := [8]) (by kernel_rfl) (by simp) ?_
      refine AllReadyH.cons rfl (fun K hK => ?_) AllReadyH.nil
      go_simp
      refine hK.out _ _ ((World.cell?_alloc_some v7.drew ⟨w.heap.size, 7, none⟩ _ (by rw [c7d]; rfl)).trans c7d) (fun hHeld2 => ?_)
      clear hK K
      try simp only [List.getElem_toArray, List.getElem_cons_succ, List.getElem_cons_zero, Act.put, List.setIfInBounds_toArray, List.set_cons_zero, List.set_cons_succ]
      refine wpAnyH_ready (rs := [9]) (by kernel_rfl) (by simp) ?_
      refine AllReadyH.cons rfl (fun K hK => ?_) AllReadyH.nil
      go_simp
      go_at_call 29
      refine HC.out.mono ?_
      rintro e v8 ⟨rfl, hl, hb⟩
      have S8 := Lib.hid (SD.out.write hl hb)
      refine hK.out _ _ (S8.out.hd.cells.2.2.2.2.2.2.2) (fun hHeld3 => ?_)
      clear hK K
      try simp only [List.getElem_toArray, List.getElem_cons_succ, List.getElem_cons_zero, Act.put, List.setIfInBounds_toArray, List.set_cons_zero, List.set_cons_succ]
      refine wpAnyH_done (by kernel_rfl) ?_ _
      go_wp2_with fail
      refine (bstr_any b b _ v8 S8.out.bld S8.out.sz).mono ?_
      rintro e v9 ⟨rfl, hb9⟩
      have B9 := Lib.hid ((S8.out.hd.keep (hb9.mono (by have := S8.out.lt; omega))).bel)
      go_wp2_with fail
      go_ret2
      refine ⟨B9.out, .inr ⟨HR.out, x, HX.out, ?_⟩⟩
      rw [HL5.out, HL4.out, HL3.out, HL2.out, HL1.out, HL0.out]
      rfl
  · have e6 : (⟨#[83, 97, 109, 101, 83, 105, 116, 101]⟩ : ByteArray).size + (⟨#[83, 116, 114, 105, 99, 116]⟩ : ByteArray).size ≤ 1000000 := by
      have e1 : (⟨#[83, 97, 109, 101, 83, 105, 116, 101]⟩ : ByteArray).size = 8 := rfl
      have e2 : (⟨#[83, 116, 114, 105, 99, 116]⟩ : ByteArray).size = 6 := rfl
      rw [e1, e2]
      omega
    have SD := Lib.hid (S7.out.keep (Below.drew (Below.refl v7.heap.size v7)))
    have HC := Lib.hid (say2 true (⟨#[83, 97, 109, 101, 83, 105, 116, 101]⟩ : ByteArray) (⟨#[83, 116, 114, 105, 99, 116]⟩ : ByteArray) b b L5 v7.drew 9 SD.out.bld SD.out.sz (by omega) e6)
    have c7d : v7.drew.cell? ⟨w.heap.size, 7, none⟩ = some (.int .i64 2) := c7
    have hsel := sel_2
    · refine wp_region_held_drew (S := fun W => W.cell? ⟨w.heap.size, 7, none⟩ = some (.int .i64 2)) (by kernel_rfl) c7d (fun hHeld => ?_)
      refine wpAnyH_take (i := 0) (v := ?_) rfl (by kernel_rfl) (by kernel_rfl) (by kernel_rfl) (fun _ _ _ h => h) (Or.inl ⟨by rfl, ?_⟩) (by assumption) ?_
      rotate_left
      · (intro w hSw; go_simp; try with_reducible rfl)
      try simp only [List.getElem_toArray, List.getElem_cons_zero, Act.put, List.setIfInBounds_toArray, List.set_cons_zero, List.set_cons_succ]
      refine wpAnyH_take (i := 1) (v := ?_) rfl (by kernel_rfl) (by kernel_rfl) (by kernel_rfl) (fun _ _ _ h => h) (Or.inl ⟨by rfl, ?_⟩) (by assumption) ?_
      rotate_left
      · (intro w hSw; go_simp; try with_reducible rfl)
      try simp only [List.getElem_toArray, List.getElem_cons_succ, List.getElem_cons_zero, Act.put, List.setIfInBounds_toArray, List.set_cons_zero, List.set_cons_succ]
      refine wpAnyH_take (i := 2) (v := ?_) rfl (by kernel_rfl) (by kernel_rfl) (by kernel_rfl) (fun _ _ _ h => h) (Or.inl ⟨by rfl, ?_⟩) (by assumption) ?_
      rotate_left
      · (intro w hSw; go_simp; try with_reducible rfl)
      try simp only [List.getElem_toArray, List.getElem_cons_succ, List.getElem_cons_zero, Act.put, List.setIfInBounds_toArray, List.set_cons_zero, List.set_cons_succ]
      refine wpAnyH_take (i := 3) (v := ?_) rfl (by kernel_rfl) (by kernel_rfl) (by kernel_rfl) (fun _ _ _ h => h) (Or.inl ⟨by rfl, ?_⟩) (by assumption) ?_
      rotate_left
      · (intro w hSw; go_simp; try with_reducible rfl)
      try simp only [List.getElem_toArray, List.getElem_cons_succ, List.getElem_cons_zero, Act.put, List.setIfInBounds_toArray, List.set_cons_zero, List.set_cons_succ]
      refine wpAnyH_take (i := 4) (v := ?_) rfl (by kernel_rfl) (by kernel_rfl) (by kernel_rfl) (fun _ _ _ h => h) (Or.inl ⟨by rfl, ?_⟩) (by assumption) ?_
      rotate_left
      · (intro w hSw; go_simp; try with_reducible rfl)
      try simp only [List.getElem_toArray, List.getElem_cons_succ, List.getElem_cons_zero, Act.put, List.setIfInBounds_toArray, List.set_cons_zero, List.set_cons_succ]
      refine wpAnyH_take (i := 5) (v := ?_) rfl (by kernel_rfl) (by kernel_rfl) (by kernel_rfl) (fun _ _ _ h => h) (Or.inl ⟨by rfl, ?_⟩) (by assumption) ?_
      rotate_left
      · (intro w hSw; go_simp; try with_reducible rfl)
      try simp only [List.getElem_toArray, List.getElem_cons_succ, List.getElem_cons_zero, Act.put, List.setIfInBounds_toArray, List.set_cons_zero, List.set_cons_succ]
      refine wpAnyH_take (i := 6) (v := ?_) rfl (by kernel_rfl) (by kernel_rfl) (by kernel_rfl) (fun _ _ _ h => h) (Or.inl ⟨by rfl, ?_⟩) (by assumption) ?_
      rotate_left
      · (intro w hSw; go_simp; try with_reducible rfl)
      try simp only [List.getElem_toArray, List.getElem_cons_succ, List.getElem_cons_zero, Act.put, List.setIfInBounds_toArray, List.set_cons_zero, List.set_cons_succ]
      refine wpAnyH_take (i := 7) (v := ?_) rfl (by kernel_rfl) (by kernel_rfl) (by kernel_rfl) (fun _ _ _ h => h) (Or.inl ⟨by rfl, ?_⟩) (by assumption) ?_
      rotate_left
      · (intro w hSw; go_simp; try with_reducible rfl)
      try simp only [List.getElem_toArray, List.getElem_cons_succ, List.getElem_cons_zero, Act.put, List.setIfInBounds_toArray, List.set_cons_zero, List.set_cons_succ]
      refine wpAnyH_ready (rs := [8]) (by kernel_rfl) (by simp) ?_
      refine AllReadyH.cons rfl (fun K hK => ?_) AllReadyH.nil
      go_simp
      refine hK.out _ _ ((World.cell?_alloc_some v7.drew ⟨w.heap.size, 7, none⟩ _ (by rw [c7d]; rfl)).trans c7d) (fun hHeld2 => ?_)
      clear hK K
      try simp only [List.getElem_toArray, List.getElem_cons_succ, List.getElem_cons_zero, Act.put, List.setIfInBounds_toArray, List.set_cons_zero, List.set_cons_succ]
      refine wpAnyH_ready (rs := [9]) (by kernel_rfl) (by simp) ?_
      refine AllReadyH.cons rfl (fun K hK => ?_) AllReadyH.nil
      go_simp
      go_at_call 29
      refine HC.out.mono ?_
      rintro e v8 ⟨rfl, hl, hb⟩
      have S8 := Lib.hid (SD.out.write hl hb)
      refine hK.out _ _ (S8.out.hd.cells.2.2.2.2.2.2.2) (fun hHeld3 => ?_)
      clear hK K
      try simp only [List.getElem_toArray, List.getElem_cons_succ, List.getElem_cons_zero, Act.put, List.setIfInBounds_toArray, List.set_cons_zero, List.set_cons_succ]
      refine wpAnyH_done (by kernel_rfl) ?_ _
      go_wp2_with fail
      refine (bstr_any b b _ v8 S8.out.bld S8.out.sz).mono ?_
      rintro e v9 ⟨rfl, hb9⟩
      have B9 := Lib.hid ((S8.out.hd.keep (hb9.mono (by have := S8.out.lt; omega))).bel)
      go_wp2_with fail
      go_ret2
      refine ⟨B9.out, .inr ⟨HR.out, x, HX.out, ?_⟩⟩
      rw [HL5.out, HL4.out, HL3.out, HL2.out, HL1.out, HL0.out]
      rfl
  · have e6 : (⟨#[83, 97, 109, 101, 83, 105, 116, 101]⟩ : ByteArray).size + (⟨#[78, 111, 110, 101]⟩ : ByteArray).size ≤ 1000000 := by
      have e1 : (⟨#[83, 97, 109, 101, 83, 105, 116, 101]⟩ : ByteArray).size = 8 := rfl
      have e2 : (⟨#[78, 111, 110, 101]⟩ : ByteArray).size = 4 := rfl
      rw [e1, e2]
      omega
    have SD := Lib.hid (S7.out.keep (Below.drew (Below.refl v7.heap.size v7)))
    have HC := Lib.hid (say2 true (⟨#[83, 97, 109, 101, 83, 105, 116, 101]⟩ : ByteArray) (⟨#[78, 111, 110, 101]⟩ : ByteArray) b b L5 v7.drew 9 SD.out.bld SD.out.sz (by omega) e6)
    have c7d : v7.drew.cell? ⟨w.heap.size, 7, none⟩ = some (.int .i64 3) := c7
    have hsel := sel_3
    · refine wp_region_held_drew (S := fun W => W.cell? ⟨w.heap.size, 7, none⟩ = some (.int .i64 3)) (by kernel_rfl) c7d (fun hHeld => ?_)
      refine wpAnyH_take (i := 0) (v := ?_) rfl (by kernel_rfl) (by kernel_rfl) (by kernel_rfl) (fun _ _ _ h => h) (Or.inl ⟨by rfl, ?_⟩) (by assumption) ?_
      rotate_left
      · (intro w hSw; go_simp; try with_reducible rfl)
      try simp only [List.getElem_toArray, List.getElem_cons_zero, Act.put, List.setIfInBounds_toArray, List.set_cons_zero, List.set_cons_succ]
      refine wpAnyH_take (i := 1) (v := ?_) rfl (by kernel_rfl) (by kernel_rfl) (by kernel_rfl) (fun _ _ _ h => h) (Or.inl ⟨by rfl, ?_⟩) (by assumption) ?_
      rotate_left
      · (intro w hSw; go_simp; try with_reducible rfl)
      try simp only [List.getElem_toArray, List.getElem_cons_succ, List.getElem_cons_zero, Act.put, List.setIfInBounds_toArray, List.set_cons_zero, List.set_cons_succ]
      refine wpAnyH_take (i := 2) (v := ?_) rfl (by kernel_rfl) (by kernel_rfl) (by kernel_rfl) (fun _ _ _ h => h) (Or.inl ⟨by rfl, ?_⟩) (by assumption) ?_
      rotate_left
      · (intro w hSw; go_simp; try with_reducible rfl)
      try simp only [List.getElem_toArray, List.getElem_cons_succ, List.getElem_cons_zero, Act.put, List.setIfInBounds_toArray, List.set_cons_zero, List.set_cons_succ]
      refine wpAnyH_take (i := 3) (v := ?_) rfl (by kernel_rfl) (by kernel_rfl) (by kernel_rfl) (fun _ _ _ h => h) (Or.inl ⟨by rfl, ?_⟩) (by assumption) ?_
      rotate_left
      · (intro w hSw; go_simp; try with_reducible rfl)
      try simp only [List.getElem_toArray, List.getElem_cons_succ, List.getElem_cons_zero, Act.put, List.setIfInBounds_toArray, List.set_cons_zero, List.set_cons_succ]
      refine wpAnyH_take (i := 4) (v := ?_) rfl (by kernel_rfl) (by kernel_rfl) (by kernel_rfl) (fun _ _ _ h => h) (Or.inl ⟨by rfl, ?_⟩) (by assumption) ?_
      rotate_left
      · (intro w hSw; go_simp; try with_reducible rfl)
      try simp only [List.getElem_toArray, List.getElem_cons_succ, List.getElem_cons_zero, Act.put, List.setIfInBounds_toArray, List.set_cons_zero, List.set_cons_succ]
      refine wpAnyH_take (i := 5) (v := ?_) rfl (by kernel_rfl) (by kernel_rfl) (by kernel_rfl) (fun _ _ _ h => h) (Or.inl ⟨by rfl, ?_⟩) (by assumption) ?_
      rotate_left
      · (intro w hSw; go_simp; try with_reducible rfl)
      try simp only [List.getElem_toArray, List.getElem_cons_succ, List.getElem_cons_zero, Act.put, List.setIfInBounds_toArray, List.set_cons_zero, List.set_cons_succ]
      refine wpAnyH_take (i := 6) (v := ?_) rfl (by kernel_rfl) (by kernel_rfl) (by kernel_rfl) (fun _ _ _ h => h) (Or.inl ⟨by rfl, ?_⟩) (by assumption) ?_
      rotate_left
      · (intro w hSw; go_simp; try with_reducible rfl)
      try simp only [List.getElem_toArray, List.getElem_cons_succ, List.getElem_cons_zero, Act.put, List.setIfInBounds_toArray, List.set_cons_zero, List.set_cons_succ]
      refine wpAnyH_take (i := 7) (v := ?_) rfl (by kernel_rfl) (by kernel_rfl) (by kernel_rfl) (fun _ _ _ h => h) (Or.inl ⟨by rfl, ?_⟩) (by assumption) ?_
      rotate_left
      · (intro w hSw; go_simp; try with_reducible rfl)
      try simp only [List.getElem_toArray, List.getElem_cons_succ, List.getElem_cons_zero, Act.put, List.setIfInBounds_toArray, List.set_cons_zero, List.set_cons_succ]
      refine wpAnyH_ready (rs := [8]) (by kernel_rfl) (by simp) ?_
      refine AllReadyH.cons rfl (fun K hK => ?_) AllReadyH.nil
      go_simp
      refine hK.out _ _ ((World.cell?_alloc_some v7.drew ⟨w.heap.size, 7, none⟩ _ (by rw [c7d]; rfl)).trans c7d) (fun hHeld2 => ?_)
      clear hK K
      try simp only [List.getElem_toArray, List.getElem_cons_succ, List.getElem_cons_zero, Act.put, List.setIfInBounds_toArray, List.set_cons_zero, List.set_cons_succ]
      refine wpAnyH_ready (rs := [9]) (by kernel_rfl) (by simp) ?_
      refine AllReadyH.cons rfl (fun K hK => ?_) AllReadyH.nil
      go_simp
      go_at_call 29
      refine HC.out.mono ?_
      rintro e v8 ⟨rfl, hl, hb⟩
      have S8 := Lib.hid (SD.out.write hl hb)
      refine hK.out _ _ (S8.out.hd.cells.2.2.2.2.2.2.2) (fun hHeld3 => ?_)
      clear hK K
      try simp only [List.getElem_toArray, List.getElem_cons_succ, List.getElem_cons_zero, Act.put, List.setIfInBounds_toArray, List.set_cons_zero, List.set_cons_succ]
      refine wpAnyH_done (by kernel_rfl) ?_ _
      go_wp2_with fail
      refine (bstr_any b b _ v8 S8.out.bld S8.out.sz).mono ?_
      rintro e v9 ⟨rfl, hb9⟩
      have B9 := Lib.hid ((S8.out.hd.keep (hb9.mono (by have := S8.out.lt; omega))).bel)
      go_wp2_with fail
      go_ret2
      refine ⟨B9.out, .inr ⟨HR.out, x, HX.out, ?_⟩⟩
      rw [HL5.out, HL4.out, HL3.out, HL2.out, HL1.out, HL0.out]
      rfl
end Go.Proofs.YtngamlikhgilhaaGreatDoor
