/- The walks of the statements AsciiCuts and AsciiJoins. -/
import Derived.Test.YtibgppghhpilpaaDoorAsciiL
import Derived.OpenShut
namespace Go.Proofs.YtibgppghhpilpaaDoor
open Go.RowKit

theorem byte_of (n : Int) (h0 : 0 ≤ n) (h1 : n < 256) : ∃ c : UInt8, n = (c.toNat : Int) :=
  ⟨UInt8.ofNat n.toNat, by rw [UInt8.toNat_ofNat']; omega⟩
theorem cut_back (s : ByteArray) (c : UInt8) (k : Nat) (h : FirstAt (bs s) c k) : s.extract 0 k ++ mk [c] ++ s.extract (k + 1) s.size = s := by
  apply bs_inj
  have e1 : bs (s.extract 0 k) = (bs s).take k := by rw [bs_extract, List.drop_zero]
  have e2 : bs (s.extract (k + 1) s.size) = (bs s).drop (k + 1) := by rw [bs_extract, List.take_of_length_le (by rw [← size_bs]; exact Nat.le_refl _)]
  rw [bs_append, bs_append, e1, e2, bs_mk, List.append_assoc]
  have hk : k < (bs s).length := by rw [← size_bs]; exact first_lt h
  have he : (bs s)[k] = c := by
    have := h.1
    rw [List.getElem?_eq_getElem hk] at this
    injection this
  conv => rhs; rw [← List.take_append_drop k (bs s), List.drop_eq_getElem_cons hk, he]
  rfl
theorem cut_head (s : ByteArray) (c : UInt8) (k : Nat) (h : FirstAt (bs s) c k) : ∀ j : Nat, (bs (s.extract 0 k))[j]? ≠ some c := by
  intro j
  rw [bs_extract, List.drop_zero, List.getElem?_take]
  split
  · exact h.2 j (by assumption)
  · simp
theorem conv_one (c : UInt8) (W : World) : (convert 30 9 (.slice (some ⟨W.heap.size, 0, none⟩) 1 1)).run Tryd.prog (W.alloc (.cells #[.int .u8 (c.toNat : Int)] 5)) = .ok (.string (mk [c])) (W.alloc (.cells #[.int .u8 (c.toNat : Int)] 5)) := by
  refine run_convert_bytes_back (W.alloc (.cells #[.int .u8 (c.toNat : Int)] 5)) 30 9 5 ⟨W.heap.size, 0, none⟩ 1 [c] Tryd.underlying30 Tryd.underlying5 Tryd.underlying9 (fun j hj => ?_)
  have hj0 : j = 0 := by simpa using hj
  subst hj0
  have h1 := heap_alloc_new W (.cells #[.int .u8 (c.toNat : Int)] 5)
  rw [Go.WideShapes.add_plain]
  simp only [World.cell?, h1]
  rfl

set_option maxRecDepth 100000 in
theorem asciiCuts_walk (s : ByteArray) (c : UInt8) (w : World) (hs : s.size ≤ 140737488351232) :
    Calls Tryd.prog 7 #[.string s, .int .u8 (c.toNat : Int)] w fun e w' => e = .returned (.bool true) ∧ Below w.heap.size w w' := by
  have h0 : s.size ≤ 9223372036854775807 := by omega
  rcases first_or (bs s) c with h | ⟨k, h⟩
  · have H := Lib.hid h
    clear h
    go_enter Tryd.func7, Tryd.ntmps7
    go_wp2_with fail
    refine (cut_none s c _ H.out).mono ?_
    rintro e w1 ⟨rfl, rfl⟩
    go_wp2_with fail
    refine (rcut_none s c _ h0 H.out).mono ?_
    rintro e w1 ⟨rfl, rfl⟩
    go_wp2_with fail
    refine (alive_any _).mono ?_
    rintro e w1 ⟨rfl, hb1⟩
    go_wp2_with fail
    go_ret
    exact ⟨by simp, hb1⟩
  · have H := Lib.hid h
    have HC := Lib.hid (cut_back s c k h)
    have HZ := Lib.hid (show (s.extract 0 k).size = k by simp; have := first_lt h; omega)
    have hk := first_lt h
    have hcv := conv_one c
    have hsz1 : (s.extract 0 k).size + (mk [c]).size ≤ 9223372036854775807 := by simp [size_mk]; omega
    have hsz2 : (s.extract 0 k ++ mk [c]).size + (s.extract (k + 1) s.size).size ≤ 9223372036854775807 := by simp [size_mk]; omega
    clear h
    go_enter Tryd.func7, Tryd.ntmps7
    go_wp2_with fail
    refine (cut_some s c k _ h0 H.out).mono ?_
    rintro e w1 ⟨rfl, n1, rfl⟩
    go_wp2_with fail
    refine (rcut_some s c k _ h0 H.out).mono ?_
    rintro e w2 ⟨rfl, n2, rfl⟩
    go_wp2_with fail
    refine (cut_none (s.extract 0 k) c _ (cut_head s c k H.out)).mono ?_
    rintro e w3 ⟨rfl, rfl⟩
    go_wp2_with fail
    refine (alive_any _).mono ?_
    rintro e w4 ⟨rfl, hb4⟩
    go_wp2_with fail
    rw [HC.out]
    go_ret
    exact ⟨by simp, Below.alloc (Below.snoc (Below.drawn (Below.refl _ w) (n1 + n2)) hb4) hb4.size _⟩
theorem asciiCuts_any (s : ByteArray) (n : Int) (w : World) (hs : s.size ≤ 140737488351232) (hn : (Lit.int .u8 n).wf = true) :
    Calls Tryd.prog 7 #[.string s, .int .u8 n] w fun e w' => e = .returned (.bool true) ∧ Below w.heap.size w w' := by
  have e1 : IntKind.u8.min = 0 := rfl
  have e2 : IntKind.u8.max = 255 := rfl
  simp [Lit.wf, e1, e2] at hn
  obtain ⟨c, rfl⟩ := byte_of n (by omega) (by omega)
  exact asciiCuts_walk s c w hs
end Go.Proofs.YtibgppghhpilpaaDoor
