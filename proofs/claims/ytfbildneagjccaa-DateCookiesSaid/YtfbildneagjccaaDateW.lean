/- Contract: the reference's Words. -/
import Derived.Test.YtfbildneagjccaaDateT
import Derived.Deep.AppendSrc
import Derived.OwnWalk
namespace Go.Proofs.Ytfbildneagjccaa
open Go.RowKit

theorem infoS : (Try.prog.info? 9).map (fun i => (i.zero, i.size, i.bytes)) = some (some (.string ⟨#[]⟩), 1, 16) := by kernel_rfl
/-- The value's texts are q; its row lies from block B on. -/
def RT (B : Nat) (w : World) (v : Value) (q : List ByteArray) : Prop :=
  ∃ a cp, v = .slice a q.length cp ∧ q.length ≤ cp ∧ (q = [] ∨ ∃ b, a = some ⟨b, 0, none⟩ ∧ B ≤ b ∧ ∀ i (h : i < q.length), w.cell? ⟨b, i, none⟩ = some (.string q[i]))
theorem RT.of_owns {w : World} {B : Nat} {v : Value} {q : List ByteArray} (h : w.ownsRow B 9 1 v q.length (q.map Value.string)) : RT B w v q := by
  obtain ⟨h1, ⟨rfl, h2⟩ | ⟨g, cap, cur, rfl, hb, hh, hn, hm, hs, ht⟩⟩ := h
  · have : q = [] := List.length_eq_zero_iff.1 h2
    subst this
    exact ⟨none, 0, rfl, Nat.le_refl _, .inl rfl⟩
  · refine ⟨_, cap, rfl, hn, .inr ⟨g, rfl, hb, fun i hi => ?_⟩⟩
    have h3 : (cur.toList.take (q.length * 1))[i]? = (q.map Value.string)[i]? := by rw [ht]
    rw [Nat.mul_one, List.getElem?_take_of_lt hi, List.getElem?_map, List.getElem?_eq_getElem hi] at h3
    simp only [World.cell?, hh]
    simp at h3 ⊢
    rw [h3]
def WordsP (w : World) (s : ByteArray) (e : Ending) (w' : World) : Prop := ∃ v, e = .returned v ∧ Below w.heap.size w w' ∧ RT w.heap.size w' v (wordsS s)
/-- How far the words have been read. -/
def WA (s : ByteArray) (q : List ByteArray) (X : ByteArray) (k : Nat) : Prop := wordsA [] (bs s) = q.map bs ++ wordsA (bs X) ((bs s).drop k)
theorem drop_one (s : ByteArray) (k : Nat) (hk : k < s.size) : (bs s).drop k = (bs s).getD k 0 :: (bs s).drop (k + 1) := by
  have hk' : k < (bs s).length := by rw [← size_bs]; exact hk
  rw [List.drop_eq_getElem_cons hk']
  congr 1
  simp [hk']
theorem WA.more {s : ByteArray} {q : List ByteArray} {X : ByteArray} {k : Nat} (h : WA s q X k) (hk : k < s.size) (hp : partsB (at_ s k) = false) : WA s q (X ++ s.extract k (k + 1)) (k + 1) := by
  unfold WA at *
  rw [h, drop_one s k hk, wordsA, if_neg (by rw [show partsB ((((bs s).getD k 0).toNat : Nat) : Int) = false from hp]; simp), bs_append, one_bs s k hk]
theorem WA.skip {s : ByteArray} {q : List ByteArray} {k : Nat} (h : WA s q ⟨#[]⟩ k) (hk : k < s.size) (hp : partsB (at_ s k) = true) : WA s q ⟨#[]⟩ (k + 1) := by
  unfold WA at *
  rw [h, drop_one s k hk, wordsA, if_pos (show partsB ((((bs s).getD k 0).toNat : Nat) : Int) = true from hp)]
  rfl
theorem WA.cut {s : ByteArray} {q : List ByteArray} {X : ByteArray} {k : Nat} (h : WA s q X k) (hk : k < s.size) (hp : partsB (at_ s k) = true) (hX : bs X ≠ []) : WA s (q ++ [X]) ⟨#[]⟩ (k + 1) := by
  unfold WA at *
  rw [h, drop_one s k hk, wordsA, if_pos (show partsB ((((bs s).getD k 0).toNat : Nat) : Int) = true from hp), if_neg hX, List.map_append, List.append_assoc]
  rfl
theorem map_back (q : List ByteArray) : (q.map bs).map mk = q := by rw [List.map_map, show (mk ∘ bs) = id from funext mk_bs, List.map_id]
theorem WA.done {s : ByteArray} {q : List ByteArray} {k : Nat} (h : WA s q ⟨#[]⟩ k) (hk : s.size ≤ k) : wordsS s = q := by
  unfold WA at h
  rw [List.drop_eq_nil_of_le (by rw [← size_bs]; exact hk)] at h
  unfold wordsS
  rw [h, show wordsA (bs (⟨#[]⟩ : ByteArray)) [] = [] from rfl, List.append_nil, map_back]
theorem WA.last {s : ByteArray} {q : List ByteArray} {X : ByteArray} {k : Nat} (h : WA s q X k) (hk : s.size ≤ k) (hX : bs X ≠ []) : wordsS s = q ++ [X] := by
  unfold WA at h
  rw [List.drop_eq_nil_of_le (by rw [← size_bs]; exact hk)] at h
  unfold wordsS
  rw [h, wordsA, if_neg hX, List.map_append, map_back]
  rfl
theorem tl_ne {X : ByteArray} (h : bs X ≠ []) : X.toList.isEmpty = false := by
  rw [toL]
  cases hb : bs X with
  | nil => exact absurd hb h
  | cons => rfl
set_option maxHeartbeats 1000000 in
set_option maxRecDepth 100000 in
theorem rwords_any (s : ByteArray) (w : World) (hs : s.size ≤ 1000) : Calls Try.prog 30 #[.string s] w (WordsP w s) := by
  obtain ⟨i0, hi, hz0, hz1, hz2⟩ := info_parts infoS
  have own0 : w.ownsRow w.heap.size 9 1 (.slice none 0 0) 0 [] := World.ownsRow_nil w _ _ _
  go_enter Try.func30, Try.ntmps30
  go_wp2_with fail
  go_loopw [3, 4, 5] (fun v x i wr => ∃ (k : Nat) (X : ByteArray) (q : List ByteArray), k ≤ s.size ∧ X.size ≤ k ∧ x = .string X ∧ i = .int .i64 k ∧ Hid (WA s q X k) ∧ q.length ≤ k ∧ wr.ownsRow w.heap.size 9 1 v q.length (q.map Value.string) ∧ Below w.heap.size w wr) (fun _ _ i _ => s.size - (intOf i).toNat)
  case atStart => exact ⟨0, ⟨#[]⟩, [], Nat.zero_le _, Nat.le_refl _, rfl, rfl, Lib.hid rfl, Nat.le_refl _, own0, Below.refl _ _⟩
  case round =>
    obtain ⟨k, X, q, hk, hX, rfl, rfl, HR, hq, hown, hb⟩ := hrel
    clear own0
    have hz := hb.size
    by_cases hlt : k < s.size
    · have HG := Lib.hid (at_get s k hlt)
      cases hc : partsB (at_ s k)
      case false =>
        have HC := Lib.hid hc
        have H2 := Lib.hid (HR.out.more hlt hc)
        have hez : (s.extract k (k + 1)).size = 1 := by rw [size_bs, one_bs s k hlt]; rfl
        clear hc
        go_wp2_with fail
        refine (rparts_any _ _).mono ?_
        rintro e w' ⟨rfl, rfl⟩
        rw [HG.out, HC.out]
        go_wp2_with fail
        go_roundw
        case rel => exact ⟨k + 1, _, q, by omega, by rw [ByteArray.size_append, hez]; omega, rfl, by go_num, H2, by omega, hown, hb⟩
        case measure => simp [intOf]; omega
      case true =>
        have HC := Lib.hid hc
        by_cases hx : bs X = []
        · obtain rfl : X = ⟨#[]⟩ := bs_inj hx
          have H2 := Lib.hid (HR.out.skip hlt hc)
          clear hc hx
          go_wp2_with fail
          refine (rparts_any _ _).mono ?_
          rintro e w' ⟨rfl, rfl⟩
          rw [HG.out, HC.out]
          go_wp2_with fail
          go_roundw
          case rel => exact ⟨k + 1, ⟨#[]⟩, q, by omega, Nat.zero_le _, rfl, by go_num, H2, by omega, hown, hb⟩
          case measure => simp [intOf]; omega
        · have H2 := Lib.hid (HR.out.cut hlt hc hx)
          have hne := tl_ne hx
          have own1 := hown.alloc (.cells #[.string X] 9)
          clear hown hc hx
          go_wp2_with fail
          refine (rparts_any _ _).mono ?_
          rintro e w' ⟨rfl, rfl⟩
          rw [HG.out, HC.out]
          go_wp2_with (at_builtin; refine wpList_append_own _ rfl (.tmp 26) (.tmp 28) 47 rfl w.heap.size 9 i0 (.string ⟨#[]⟩) 1 16 Try.underlying47 hi hz0 hz1 hz2 rfl (by decide) u3 q.length (q.map Value.string) rfl own1 ⟨wr.heap.size, 0, none⟩ 1 1 [.string X] rfl ?c1 ?c2 ?c3 ?c4 ?c5 ?c6 ?_)
          case c1 => simp
          case c2 => exact cell_one_new _ _ _
          case c3 => intro u hu; simp at hu; subst hu; rfl
          case c4 => unfold maxLen; omega
          case c5 => omega
          case c6 => simp; omega
          intro v2 w2 hown2 hg2 hne2
          have hb2 : Below w.heap.size w w2 := (hb.alloc hz _).grown hg2 (by simp; omega) (fun k hk => (own1.lt k hk).1)
          clear hg2 hne2 own1
          go_wp2_with fail
          go_roundw
          case rel => exact ⟨k + 1, ⟨#[]⟩, q ++ [X], by omega, Nat.zero_le _, rfl, by go_num, H2, by simp; omega, by simpa using hown2, hb2⟩
          case measure => simp [intOf]; omega
    · by_cases hx : bs X = []
      · obtain rfl : X = ⟨#[]⟩ := bs_inj hx
        have H2 := Lib.hid (HR.out.done (by omega))
        clear hx
        go_wp2_with fail
        go_ret
        refine ⟨_, rfl, hb, ?_⟩
        rw [H2.out]
        exact RT.of_owns hown
      · have H2 := Lib.hid (HR.out.last (by omega) hx)
        have hne := tl_ne hx
        have own1 := hown.alloc (.cells #[.string X] 9)
        clear hown hx
        go_wp2_with (at_builtin; refine wpList_append_own _ rfl (.tmp 32) (.tmp 34) 47 rfl w.heap.size 9 i0 (.string ⟨#[]⟩) 1 16 Try.underlying47 hi hz0 hz1 hz2 rfl (by decide) u3 q.length (q.map Value.string) rfl own1 ⟨wr.heap.size, 0, none⟩ 1 1 [.string X] rfl ?c1 ?c2 ?c3 ?c4 ?c5 ?c6 ?_)
        case c1 => simp
        case c2 => exact cell_one_new _ _ _
        case c3 => intro u hu; simp at hu; subst hu; rfl
        case c4 => unfold maxLen; omega
        case c5 => omega
        case c6 => simp; omega
        intro v2 w2 hown2 hg2 hne2
        have hb2 : Below w.heap.size w w2 := (hb.alloc hz _).grown hg2 (by simp; omega) (fun k hk => (own1.lt k hk).1)
        clear hg2 hne2 own1
        go_wp2_with fail
        go_ret
        refine ⟨_, rfl, hb2, ?_⟩
        rw [H2.out]
        exact RT.of_owns (by simpa using hown2)
end Go.Proofs.Ytfbildneagjccaa
