/- The library's functions that the lines want: strings.Cut, Split, TrimSuffix, HasSuffix, Join, the builder; under this program's own numbers. -/
import Derived.Test.YtmcjabmkacfilaaDoorShelf
import Derived.Test.YtmcjabmkacfilaaDoorDots
import Derived.Shelf.Lay
import Derived.Shelf.LaySoft
import Derived.WalkKit
import Derived.ProofKit
import Derived.RangeFuncNested
namespace Go.Proofs.YtmcjabmkacfilaaDoor
open Go.RowKit Go.Shelf

theorem Lsnoc {w w1 w2 : World} (h : Below w.heap.size w w1) (h2 : Below w1.heap.size w1 w2) : Below w.heap.size w w2 := h.trans (h2.mono h.size)
theorem Ldrawn {w w1 : World} (h : Below w.heap.size w w1) (n : Nat) : Below w.heap.size w (w1.drewN n) := ⟨h.os, h.tape, h.output, h.size, h.block⟩
/-- The variable MaxLen can be read. -/
def HasMax (w : World) : Prop := ∃ m, w.cell? ⟨0, 0, none⟩ = some (.int .i64 m)
theorem cell_ltL {w : World} {p : Addr} {v : Value} (h : w.cell? p = some v) : p.block < w.heap.size := by
  unfold World.cell? at h
  rcases Nat.lt_or_ge p.block w.heap.size with h1 | h1
  · exact h1
  · rw [Array.getElem?_eq_none h1] at h
    cases h
theorem max_keep {w w' : World} (h : HasMax w) (hb : Below w.heap.size w w') : HasMax w' := by
  obtain ⟨m, hm⟩ := h
  exact ⟨m, by rw [hb.cell (cell_ltL hm)]; exact hm⟩
theorem info9 : (Tryd.prog.info? 9).map (fun i => (i.zero, i.size, i.bytes)) = some (some (.string ⟨#[]⟩), 1, 16) := by kernel_rfl
theorem info5 : (Tryd.prog.info? 5).map (fun i => (i.zero, i.size, i.bytes)) = some (some (.int .u8 0), 1, 1) := by kernel_rfl
/-- The pieces between the instances of a byte, as texts. -/
def cutsS (c : UInt8) (s : ByteArray) : List ByteArray := (cuts c (bs s)).map mk
/-- What strings.Cut hands back at one byte. -/
def cutV (c : UInt8) (s : ByteArray) : Value :=
  if 0 ≤ Lib.indexByte (bs s) c then .tuple #[.string (mk ((bs s).take (Lib.indexByte (bs s) c).toNat)), .string (mk ((bs s).drop ((Lib.indexByte (bs s) c).toNat + 1))), .bool true] else .tuple #[.string s, .string ⟨#[]⟩, .bool false]
theorem cut_any (c : UInt8) (s : ByteArray) (w : World) (hs : s.size < 4294967281) (hm : HasMax w) :
    Calls Tryd.prog 49 #[.string s, .string ⟨#[c]⟩] w fun e w' => e = .returned (cutV c s) ∧ ∃ n, w' = w.drewN n := by
  obtain ⟨m, hm⟩ := hm
  refine (Any.strings_Cut Tryd.lays145 s ⟨#[c]⟩ m w hs hm).mono ?_
  rintro e w' ⟨rfl, h⟩
  refine ⟨?_, h⟩
  unfold cutV Lib.cut bs
  rw [show (⟨#[c]⟩ : ByteArray).data.toList = [c] from rfl, Lib.index_one]
  split <;> rfl
def endsB (s : ByteArray) (c : UInt8) : Bool := (bs s).getLast? == some c
theorem dropLast_snoc {l : List UInt8} {c : UInt8} (h : l.getLast? = some c) : l.dropLast ++ [c] = l := by
  obtain ⟨l', rfl⟩ := List.getLast?_eq_some_iff.1 h
  simp
theorem suffix_one (l : List UInt8) (c : UInt8) : Lib.hasSuffix l [c] = (l.getLast? == some c) := by
  unfold Lib.hasSuffix
  rw [Bool.eq_iff_iff, List.isSuffixOf_iff_suffix, beq_iff_eq]
  constructor
  · rintro ⟨t, rfl⟩; simp
  · intro h
    exact ⟨l.dropLast, dropLast_snoc h⟩
def chop (l : List UInt8) : List UInt8 := if l.getLast? = some 13 then l.dropLast else l
theorem trim_any (s : ByteArray) (w : World) (hs : s.size ≤ 9223372036854775807) :
    Calls Tryd.prog 50 #[.string s, .string ⟨#[13]⟩] w fun e w' => e = .returned (.string (mk (chop (bs s)))) ∧ w = w' := by
  refine (Any.strings_TrimSuffix Tryd.lays102 s ⟨#[13]⟩ w hs).mono ?_
  rintro e w' ⟨rfl, h⟩
  refine ⟨?_, h.symm⟩
  unfold chop Lib.trimSuffix bs mk
  rw [show (⟨#[13]⟩ : ByteArray).data.toList = [13] from rfl]
  simp only [suffix_one, beq_iff_eq, List.length_singleton, List.dropLast_eq_take]
theorem ends_any (s : ByteArray) (w : World) (hs : s.size ≤ 9223372036854775807) :
    Calls Tryd.prog 31 #[.string s, .string ⟨#[13]⟩] w fun e w' => e = .returned (.bool (endsB s 13)) ∧ w = w' := by
  refine (Any.strings_HasSuffix Tryd.lays100 s ⟨#[13]⟩ w hs).mono ?_
  rintro e w' ⟨rfl, h⟩
  exact ⟨by rw [show (⟨#[13]⟩ : ByteArray).data.toList = [13] from rfl, suffix_one]; rfl, h.symm⟩
theorem ixb_any (s : ByteArray) (c : UInt8) (w : World) :
    Calls Tryd.prog 30 #[.string s, .int .u8 (c.toNat : Int)] w fun e w' => e = .returned (.int .i64 (Lib.indexByte (bs s) c)) ∧ w = w' := by
  refine (Any.strings_IndexByte Tryd.lays137 s (c.toNat : Int) w).mono ?_
  rintro e w' ⟨rfl, h⟩
  exact ⟨by rw [show ((c.toNat : Int)).toNat.toUInt8 = c from by simp]; rfl, h.symm⟩
/-- The builder's functions: their numbers. -/
def bren : Ren := ⟨fun | 166 => 32 | 167 => 33 | 169 => 34 | 240 => 53 | 276 => 60 | n => n, Tryd.lays156_ren.t, Tryd.lays156_ren.g⟩
theorem bl166 : Lays.n166 Tryd.prog bren := { Tryd.lays156 with
  f166 := Tryd.lays156.f166
  f240 := Tryd.lays156.f240
  f276 := Tryd.lays156.f276 }
theorem bl167 : Lays.n167 Tryd.prog bren := { Tryd.lays156 with
  f167 := Tryd.func33.trans (congrArg some (by kernel_rfl))
  f240 := Tryd.lays156.f240
  f276 := Tryd.lays156.f276
  t5 := Tryd.underlying5
  a5 := Tryd.isAgg5
  z5 := Tryd.sizeOf5
  v5 := Tryd.zeroValue5 }
theorem bl169 : Lays.n169 Tryd.prog bren := { Tryd.lays156 with
  f169 := Tryd.lays156.f169 }
theorem bextra : Builder.Extra Tryd.prog bren where
  sizeBuilder := by kernel_rfl
  liesBuilder := by kernel_rfl
  t5 := Tryd.underlying5
  a5 := Tryd.isAgg5
  z5 := Tryd.sizeOf5
  v5 := Tryd.zeroValue5
  infoByte := by kernel_rfl
  cellsByte := by kernel_rfl
  sizeByte := by kernel_rfl
  neB5 := by decide
theorem bextraJ : Builder.Extra Tryd.prog Tryd.lays156_ren where
  sizeBuilder := by kernel_rfl
  liesBuilder := by kernel_rfl
  t5 := Tryd.underlying5
  a5 := Tryd.isAgg5
  z5 := Tryd.sizeOf5
  v5 := Tryd.zeroValue5
  infoByte := by kernel_rfl
  cellsByte := by kernel_rfl
  sizeByte := by kernel_rfl
  neB5 := by decide
/-- A builder at block b that holds these bytes; all it has made lies from block B on. -/
def Bld (B b : Nat) (l : List UInt8) (w : World) : Prop := Lib.IsBuilder 39 5 B b (Lib.byteCells l) w
theorem wstr_any (B b : Nat) (l : List UInt8) (s : ByteArray) (w : World) (h : Bld B b l w) (hlen : l.length + s.size ≤ 140737488355328) (hB : B ≤ w.heap.size) :
    Calls Tryd.prog 32 #[.pointer (some ⟨b, 0, none⟩), .string s] w fun e w' => e = .returned (.tuple #[.int .i64 s.size, .nilIface]) ∧ Bld B b (l ++ bs s) w' ∧ Below B w w' := by
  refine (Any.Builder_WriteString bl166 bextra B b (Lib.byteCells l) s w h (by rw [Lib.byteCells, List.length_map]; exact hlen) hB).mono ?_
  rintro e w' ⟨rfl, h1, h2⟩
  refine ⟨rfl, .inr ?_, h2⟩
  rw [show Lib.byteCells (l ++ bs s) = Lib.byteCells l ++ Lib.strCells s from by simp [Lib.byteCells, Lib.strCells, bs]]
  exact h1
theorem wbyte_any (B b : Nat) (l : List UInt8) (c : UInt8) (w : World) (h : Bld B b l w) (hlen : l.length + 1 ≤ 140737488355328) (hB : B ≤ w.heap.size) :
    Calls Tryd.prog 33 #[.pointer (some ⟨b, 0, none⟩), .int .u8 (c.toNat : Int)] w fun e w' => e = .returned .nilIface ∧ Bld B b (l ++ [c]) w' ∧ Below B w w' := by
  refine (Any.Builder_WriteByte bl167 bextra B b (Lib.byteCells l) (c.toNat : Int) w h (by rw [Lib.byteCells, List.length_map]; exact hlen) hB).mono ?_
  rintro e w' ⟨rfl, h1, h2⟩
  refine ⟨rfl, .inr ?_, h2⟩
  rw [show Lib.byteCells (l ++ [c]) = Lib.byteCells l ++ [.int .u8 (c.toNat : Int)] from by simp [Lib.byteCells]]
  exact h1
theorem bstr_any (B b : Nat) (l : List UInt8) (w : World) (h : Bld B b l w) (hB : B ≤ w.heap.size) :
    Calls Tryd.prog 34 #[.pointer (some ⟨b, 0, none⟩)] w fun e w' => e = .returned (.string (mk l)) ∧ Below B w w' :=
  Any.Builder_String_any bl169 bextra B b l w h hB
theorem Bld.new (w : World) (B : Nat) (hB : B ≤ w.heap.size) : Bld B w.heap.size [] (w.alloc (.cells #[.pointer none, .slice none 0 0] 39)) :=
  .inl ⟨hB, _, World.alloc_heap_new w _, World.ownsRow_nil _ _ _ _, by simp [Value.ownBlock]⟩
end Go.Proofs.YtmcjabmkacfilaaDoor
