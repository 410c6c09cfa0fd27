/- The contracts of lines.made and Escape. -/
import Derived.Test.YtmcjabmkacfilaaDoorLinH
import Derived.Deep.MidRow
namespace Go.Proofs.YtmcjabmkacfilaaDoor
open Go.RowKit Go.Shelf

def cellsU (l : List UInt8) : List Value := l.map fun c => Value.int .u8 (c.toNat : Int)
theorem Addr.add_at (b o j : Nat) : (⟨b, o, none⟩ : Addr).add j = ⟨b, o + j, none⟩ := Addr.add_mid b o j
theorem conv_new (W : World) (l : List UInt8) (n : Nat) (hn : l.length = n) : (convert 37 9 (.slice (some ⟨W.heap.size, 0, none⟩) n n)).run Tryd.prog (W.alloc (.cells (cellsU l).toArray 5)) = .ok (.string (mk l)) (W.alloc (.cells (cellsU l).toArray 5)) := by
  subst hn
  refine run_convert_bytes_back (W.alloc (.cells (cellsU l).toArray 5)) 37 9 5 ⟨W.heap.size, 0, none⟩ l.length l Tryd.underlying37 Tryd.underlying5 Tryd.underlying9 (fun j hj => ?_)
  rw [Addr.add_at, Nat.zero_add, World.cell?_alloc_new]
  simp [cellsU, hj]
def escB (c : UInt8) : List UInt8 := if c = 92 then [92, 92] else if c = 9 then [92, 116] else if c = 10 then [92, 110] else if c = 13 then [92, 114] else [c]
theorem escB_len (c : UInt8) : (escB c).length ≤ 3 := by
  unfold escB
  split
  · simp
  split
  · simp
  split
  · simp
  split <;> simp
def escS (s : ByteArray) : ByteArray := mk ((bs s).flatMap escB)
theorem ne_int {c : UInt8} {n : Nat} (hn : n < 256) (h : c ≠ UInt8.ofNat n) : ((c.toNat : Int) == (n : Int)) = false ∧ ¬ ((c.toNat : Int) = (n : Int)) := by
  have h2 : ¬ ((c.toNat : Int) = (n : Int)) := fun h1 => h (UInt8.toNat_inj.1 (by rw [UInt8.toNat_ofNat_of_lt' (by simpa using hn)]; omega))
  exact ⟨beq_eq_false_iff_ne.2 h2, h2⟩
set_option maxRecDepth 100000 in
set_option maxHeartbeats 1000000 in
theorem esc1_any (c : UInt8) (w : World) : Calls Tryd.prog 41 #[.int .u8 (c.toNat : Int)] w fun e w' => e = .returned (.string (mk (escB c))) ∧ Below w.heap.size w w' := by
  have HC := Lib.hid (conv_new w [c] 1 rfl)
  by_cases h92 : c = 92
  · subst h92
    go_enter Tryd.func41, Tryd.ntmps41
    go_wp2_with fail
    go_ret
    exact ⟨rfl, Below.refl _ _⟩
  by_cases h9 : c = 9
  · subst h9
    go_enter Tryd.func41, Tryd.ntmps41
    go_wp2_with fail
    go_ret
    exact ⟨rfl, Below.refl _ _⟩
  by_cases h10 : c = 10
  · subst h10
    go_enter Tryd.func41, Tryd.ntmps41
    go_wp2_with fail
    go_ret
    exact ⟨rfl, Below.refl _ _⟩
  by_cases h13 : c = 13
  · subst h13
    go_enter Tryd.func41, Tryd.ntmps41
    go_wp2_with fail
    go_ret
    exact ⟨rfl, Below.refl _ _⟩
  have HN := Lib.hid (show escB c = [c] by unfold escB; rw [if_neg h92, if_neg h9, if_neg h10, if_neg h13])
  obtain ⟨a1, a2⟩ := ne_int (n := 92) (by decide) h92
  obtain ⟨b1, b2⟩ := ne_int (n := 9) (by decide) h9
  obtain ⟨c1, c2⟩ := ne_int (n := 10) (by decide) h10
  obtain ⟨d1, d2⟩ := ne_int (n := 13) (by decide) h13
  clear h92 h9 h10 h13
  rw [HN.out]
  have hcv := HC.out
  rw [show (cellsU [c]).toArray = #[Value.int .u8 (c.toNat : Int)] from rfl] at hcv
  go_enter Tryd.func41, Tryd.ntmps41
  go_wp2_with fail
  go_ret
  exact ⟨rfl, (Below.refl _ w).alloc (Nat.le_refl _) _⟩
theorem Bld.keep {B b : Nat} {l : List UInt8} {w w' : World} (h : Bld B b l w) (hb : Below w.heap.size w w') (_ : B ≤ w.heap.size) : Bld B b l w' := by
  have key : ∀ p, Lib.BuilderAt 39 5 B b p (Lib.byteCells l) w → Lib.BuilderAt 39 5 B b p (Lib.byteCells l) w' := by
    rintro p ⟨h1, v, h2, h3, h4⟩
    refine ⟨h1, v, (hb.block b (Array.getElem?_eq_some_iff.1 h2).1).trans h2, ?_, h4⟩
    obtain ⟨e1, ⟨rfl, e2⟩ | ⟨g, cap, cur, rfl, k1, k2, k3⟩⟩ := h3
    · exact ⟨e1, .inl ⟨rfl, e2⟩⟩
    · exact ⟨e1, .inr ⟨g, cap, cur, rfl, k1, (hb.block g (Array.getElem?_eq_some_iff.1 k2).1).trans k2, k3⟩⟩
  rcases h with h | h
  · exact .inl (key _ h)
  · exact .inr (key _ h)
theorem flat_take (f : UInt8 → List UInt8) (l : List UInt8) (k : Nat) (hk : k < l.length) : (l.take (k + 1)).flatMap f = (l.take k).flatMap f ++ f l[k] := by
  rw [List.take_add_one, List.getElem?_eq_getElem hk, Option.toList_some, List.flatMap_append]
  simp
theorem flat_len (f : UInt8 → List UInt8) (hf : ∀ c, (f c).length ≤ 3) : ∀ l : List UInt8, (l.flatMap f).length ≤ 3 * l.length
  | [] => by simp
  | c :: l => by
    have := flat_len f hf l
    have := hf c
    simp only [List.flatMap_cons, List.length_append, List.length_cons]
    omega
set_option maxRecDepth 100000 in
set_option maxHeartbeats 1000000 in
theorem made_any (g : FuncId) (f : UInt8 → List UInt8) (he : ∀ args w, (callFunc g args).run Tryd.prog w = .ok (.enter g args) w) (hg : ∀ (c : UInt8) w, Calls Tryd.prog g #[.int .u8 (c.toNat : Int)] w fun e w' => e = .returned (.string (mk (f c))) ∧ Below w.heap.size w w')
    (hf : ∀ c, (f c).length ≤ 3) (s : ByteArray) (w : World) (hs : s.size ≤ 1000000) :
    Calls Tryd.prog 40 #[.string s, .func (.func g) #[] #[]] w fun e w' => e = .returned (.string (mk ((bs s).flatMap f))) ∧ Below w.heap.size w w' := by
  go_enter Tryd.func40, Tryd.ntmps40
  have hB0 := Bld.new w w.heap.size (Nat.le_refl _)
  have hb0 := (Below.refl w.heap.size w).alloc (Nat.le_refl _) (.cells #[.pointer none, .slice none 0 0] 39)
  go_wp2_with fail
  go_loopw [9, 6] (fun i _ wr => ∃ k : Nat, k ≤ s.size ∧ i = .int .i64 k ∧ Bld w.heap.size w.heap.size (((bs s).take k).flatMap f) wr ∧ Below w.heap.size w wr) (fun i _ _ => s.size - (intOf i).toNat)
  case atStart => exact ⟨0, Nat.zero_le _, rfl, hB0, hb0⟩
  case round =>
    obtain ⟨k, hk, rfl, hB, hb⟩ := hrel
    clear hB0 hb0
    by_cases hlt : k < s.size
    · have hlt2 : k < (bs s).length := by rw [← size_bs]; exact hlt
      have HT : Hid (((bs s).take (k + 1)).flatMap f = ((bs s).take k).flatMap f ++ f s[k]) := Lib.hid (flat_take f (bs s) k hlt2)
      have hl3 := flat_len f hf ((bs s).take k)
      rw [List.length_take] at hl3
      have hf3 := hf s[k]
      have hz := size_mk (f s[k])
      have hgk := Lib.hid (hg s[k])
      clear hg hf
      go_wp2_with fail
      refine (hgk.out _).mono ?_
      rintro e w1 ⟨rfl, hb1⟩
      have hB1 : Bld w.heap.size w.heap.size (((bs s).take k).flatMap f) w1 := hB.keep hb1 hb.size
      have hb2 := Lsnoc hb hb1
      go_wp2_with fail
      refine (wstr_any w.heap.size w.heap.size _ (mk (f s[k])) _ hB1 (by omega) hb2.size).mono ?_
      rintro e w2 ⟨rfl, hB2, hb3⟩
      rw [bs_mk, ← HT.out] at hB2
      have hb4 := hb2.trans hb3
      clear hB hb hb1 hB1 hb2 hb3
      go_wp2_with fail
      go_round
      case rel => exact ⟨k + 1, by omega, by go_num, hB2, hb4⟩
      case measure => simp [intOf]; omega
    · obtain rfl : k = s.size := by omega
      have hk2 : (bs s).take s.size = bs s := List.take_of_length_le (by rw [← size_bs]; exact Nat.le_refl _)
      rw [hk2] at hB
      clear hk2 hg hf
      go_wp2_with fail
      refine (bstr_any w.heap.size w.heap.size _ _ hB hb.size).mono ?_
      rintro e w1 ⟨rfl, hb1⟩
      go_wp2_with fail
      go_ret
      exact ⟨rfl, hb.trans hb1⟩
set_option maxRecDepth 100000 in
theorem escape_any (s : ByteArray) (w : World) (hs : s.size ≤ 1000000) : Calls Tryd.prog 21 #[.string s] w fun e w' => e = .returned (.string (escS s)) ∧ Below w.heap.size w w' := by
  go_enter Tryd.func21, Tryd.ntmps21
  go_wp2_with fail
  refine (made_any 41 escB (enters_of Tryd.func41 (by kernel_rfl) rfl) esc1_any escB_len s _ hs).mono ?_
  rintro e w1 ⟨rfl, hb⟩
  go_wp2_with fail
  go_ret
  exact ⟨rfl, hb⟩
end Go.Proofs.YtmcjabmkacfilaaDoor
