/- Small letters: the program's and the reference's functions hand back the same text. -/
import Derived.Test.YtngamlikhgilhaaDoorAsciiC
import Derived.Lib.ConvBytes
import Derived.Laws.IdiomStrings
namespace Go.Proofs.YtngamlikhgilhaaDoor
open Go.RowKit

/-- A small letter. -/
def low (c : UInt8) : UInt8 := if 65 ≤ c.toNat ∧ c.toNat ≤ 90 then c + 32 else c
def lowS (s : ByteArray) : ByteArray := mk ((bs s).map low)
theorem low_in (c : UInt8) (h1 : 65 ≤ c.toNat) (h2 : c.toNat ≤ 90) : ((low c).toNat : Int) = (c.toNat : Int) + 32 := by
  unfold low
  rw [if_pos ⟨h1, h2⟩, UInt8.toNat_add]
  have : (32 : UInt8).toNat = 32 := rfl
  omega
theorem low_out (c : UInt8) (h : ¬(65 ≤ c.toNat ∧ c.toNat ≤ 90)) : low c = c := if_neg h
theorem low_low (c : UInt8) : low (low c) = low c := by
  by_cases h : 65 ≤ c.toNat ∧ c.toNat ≤ 90
  · have := low_in c h.1 h.2
    exact low_out _ (by omega)
  · rw [low_out c h, low_out c h]

/-- A row of bytes in one block of the call's own. -/
def LRow (w : World) (N : Nat) (l : List UInt8) : Prop := ∀ j (h : j < l.length), w.cell? ⟨N, j, none⟩ = some (.int .u8 (l[j].toNat : Int)) ∧ w.frozen? ⟨N, j, none⟩ = false
theorem LRow.set {w : World} {N : Nat} {l : List UInt8} (h : LRow w N l) (k : Nat) (hk : k < l.length) (v : UInt8) : LRow (w.setCell ⟨N, k, none⟩ (.int .u8 (v.toNat : Int))) N (l.set k v) := by
  intro j hj
  rw [List.length_set] at hj
  obtain ⟨h1, h2⟩ := h j hj
  refine ⟨?_, ?_⟩
  · by_cases hjk : k = j
    · subst hjk
      rw [World.cell?_setCell_same' w _ _ (by rw [(h k hk).1]; rfl)]
      simp
    · rw [World.cell?_setCell_other _ _ _ _ (by intro e; injection e with _ e2; exact hjk e2), h1]
      simp [hjk]
  · rw [World.frozen?_setCell]
    exact h2
theorem conv_there (w : World) (s : ByteArray) : (convert 9 46 (.string s)).run Tryd.prog w = .ok (.slice (some ⟨w.heap.size, 0, none⟩) s.size (grownCap w s.size 0 5)) (Lib.bytesWorld w 5 s) :=
  Lib.run_convert_string_bytes w 9 46 5 s Tryd.underlying9 Tryd.underlying46 Tryd.underlying5
theorem row_there (w : World) (s : ByteArray) (e : TypeId) : LRow (Lib.bytesWorld w e s) w.heap.size (bs s) := by
  intro j hj
  have hj' : j < s.size := by rw [size_bs]; exact hj
  refine ⟨?_, ?_⟩
  · rw [Lib.bytesWorld_cell w e s j hj']
    have h' : j < s.data.toList.length := hj
    rw [List.getD_eq_getElem?_getD, List.getElem?_eq_getElem h']
    rfl
  · have h2 : j < (Lib.bytesCells w e s).size := by
      unfold Lib.bytesCells
      rw [Array.size_append, Array.size_map]
      have : s.data.size = s.size := rfl
      omega
    simp only [World.frozen?, Lib.bytesWorld_at_new]
    simp
    omega
theorem below_there (w : World) (s : ByteArray) (e : TypeId) : Below w.heap.size w (Lib.bytesWorld w e s) :=
  ⟨rfl, rfl, rfl, by rw [Lib.bytesWorld_size]; omega, fun k hk => Lib.bytesWorld_at_old w e s k hk⟩
theorem conv_back (w : World) (N n cap : Nat) (l : List UInt8) (hl : l.length = n) (h : LRow w N l) : (convert 46 9 (.slice (some ⟨N, 0, none⟩) n cap)).run Tryd.prog w = .ok (.string (mk l)) w := by
  subst hl
  exact run_convert_bytes_back w 46 9 5 ⟨N, 0, none⟩ cap l Tryd.underlying46 Tryd.underlying5 Tryd.underlying9 (fun j hj => by
    rw [Go.WideShapes.add_plain, Nat.zero_add]
    exact (h j hj).1)

/-- The row behind k rounds. -/
def lowTo (l : List UInt8) (k : Nat) : List UInt8 := (l.take k).map low ++ l.drop k
theorem lowTo_len (l : List UInt8) (k : Nat) : (lowTo l k).length = l.length := by simp [lowTo]; omega
theorem lowTo_get (l : List UInt8) (k : Nat) (hk : k < l.length) : (lowTo l k)[k]'(by rw [lowTo_len]; exact hk) = l[k] := by
  unfold lowTo
  rw [List.getElem_append_right (by simp; omega)]
  simp [Nat.min_eq_left (Nat.le_of_lt hk)]
theorem lowTo_succ (l : List UInt8) (k : Nat) (hk : k < l.length) : (lowTo l k).set k (low l[k]) = lowTo l (k + 1) := by
  unfold lowTo
  rw [List.set_append_right _ _ (by simp; omega), List.take_succ_eq_append_getElem hk, List.map_append, List.append_assoc]
  congr 1
  have hd := List.drop_eq_getElem_cons hk
  simp only [List.length_map, List.length_take, Nat.min_eq_left (Nat.le_of_lt hk), Nat.sub_self]
  rw [hd]
  rfl
theorem lowTo_same (l : List UInt8) (k : Nat) (hk : k < l.length) (h : low l[k] = l[k]) : lowTo l (k + 1) = lowTo l k := by
  have e : (lowTo l k).set k (lowTo l k)[k]! = lowTo l k := by
    rw [getElem!_pos _ k (by rw [lowTo_len]; exact hk)]
    exact List.set_getElem_self _
  rw [getElem!_pos _ k (by rw [lowTo_len]; exact hk), lowTo_get l k hk] at e
  rw [← lowTo_succ l k hk, h]
  exact e
theorem lowTo_all (l : List UInt8) : lowTo l l.length = l.map low := by simp [lowTo]

set_option maxRecDepth 100000 in
theorem lower_any (s : ByteArray) (w : World) (hs : s.size ≤ 9223372036854775807) : Calls Tryd.prog 12 #[.string s] w fun e w' => e = .returned (.string (lowS s)) ∧ Below w.heap.size w w' := by
  have hcv := conv_there w s
  have hr0 := row_there w s 5
  have hb0 := below_there w s 5
  obtain ⟨C, hC⟩ : ∃ C, C = grownCap w s.size 0 5 := ⟨_, rfl⟩
  obtain ⟨W, hW⟩ : ∃ W, W = Lib.bytesWorld w 5 s := ⟨_, rfl⟩
  rw [← hW] at hcv hr0 hb0
  rw [← hC] at hcv
  have HR0 := Lib.hid hr0
  have HSZ := Lib.hid (size_bs s)
  clear hr0 hW hC
  go_enter Tryd.func12, Tryd.ntmps12
  go_wp2_with fail
  go_loopw [9] (fun i wr => ∃ k : Nat, k ≤ s.size ∧ i = .int .i64 k ∧ Hid (LRow wr w.heap.size (lowTo (bs s) k)) ∧ Below w.heap.size w wr) (fun i _ => s.size - (intOf i).toNat)
  case atStart => exact ⟨0, Nat.zero_le _, rfl, Lib.hid (by simpa [lowTo] using HR0.out), hb0⟩
  case round =>
    clear hcv HR0 hb0
    obtain ⟨k, hk, rfl, HA, hb⟩ := hrel
    by_cases hlt : k < s.size
    · have hl : k < (bs s).length := by rw [← HSZ.out]; exact hlt
      have hl2 : k < (lowTo (bs s) k).length := by rw [lowTo_len]; exact hl
      obtain ⟨hx, hf⟩ := HA.out k hl2
      rw [lowTo_get _ _ hl] at hx
      have HX := Lib.hid hx
      by_cases hc : 65 ≤ (bs s)[k].toNat ∧ (bs s)[k].toNat ≤ 90
      · have hw1 : wi ((bs s)[k].toNat : Int) 65 90 = true := wi_iff.2 (by omega)
        have HLW := Lib.hid (low_in _ hc.1 hc.2)
        obtain ⟨c1, c2⟩ := hc
        have c3 : ((bs s)[k].toNat : Int) ≤ 90 := by omega
        have HS := Lib.hid (HA.out.set k hl2 (low (bs s)[k]))
        have HE := Lib.hid (lowTo_succ _ _ hl)
        generalize hcc : ((bs s)[k].toNat : Int) = c at *
        clear hl2
        go_wp2_with (go_at_call 23; refine (within_any _ _ _ _).mono ?_; rintro e w' ⟨rfl, rfl⟩)
        go_roundw
        case rel => exact ⟨k + 1, by omega, by go_num, Lib.hid (by have h9 := HS.out; rw [HLW.out, HE.out] at h9; exact h9), hb.setCell (Nat.le_refl _) _⟩
        case measure => simp [intOf]; omega
      · have hw1 : wi ((bs s)[k].toNat : Int) 65 90 = false := by
          cases h : wi ((bs s)[k].toNat : Int) 65 90
          · rfl
          · have := wi_iff.1 h; omega
        have HE := Lib.hid (lowTo_same _ _ hl (low_out _ hc))
        generalize hcc : ((bs s)[k].toNat : Int) = c at *
        clear hl2 hc
        go_wp2_with (go_at_call 23; refine (within_any _ _ _ _).mono ?_; rintro e w' ⟨rfl, rfl⟩)
        go_roundw
        case rel => exact ⟨k + 1, by omega, by go_num, Lib.hid (by rw [HE.out]; exact HA.out), hb⟩
        case measure => simp [intOf]; omega
    · have hbk := conv_back wr w.heap.size s.size C (lowTo (bs s) k) (by rw [lowTo_len]; exact HSZ.out.symm) HA.out
      have HF := Lib.hid (show mk (lowTo (bs s) k) = lowS s by
        rw [show k = (bs s).length by have := HSZ.out; omega, lowTo_all]
        rfl)
      rw [HF.out] at hbk
      go_wp2_with fail
      go_ret
      exact ⟨rfl, hb⟩

end Go.Proofs.YtngamlikhgilhaaDoor
