/- The reference's two functions (Post, Next), over a row of texts that is read. -/
import Derived.Test.YthpmijaimmlgdaaStr
import Derived.Deep.AppendSrc
import Derived.OwnWalk
import Derived.Lib.Hide
import Derived.WalkSpells
import Derived.Outline
import Derived.Deep.QuietTactic
import Derived.BigQuiet
namespace Go.Proofs.Ythpmijaimmlgdaa
open Go.RowKit

/-- The value's texts, as they can be read; the row is the call's own, and no channel's. -/
def RS (w : World) (B : Nat) (v : Value) (q : List ByteArray) : Prop :=
  (v = .slice none 0 0 ∧ q = []) ∨ ∃ b off cp, v = .slice (some ⟨b, off, none⟩) q.length cp ∧ B ≤ b ∧ q.length ≤ cp ∧ (∃ cs T o, w.heap[b]? = some (.cells cs T o)) ∧ ∀ i, i < q.length → w.cell? ⟨b, off + i, none⟩ = some (.string (nth q i))

set_option maxRecDepth 100000 in
theorem refPost_full (v : Value) (q : List ByteArray) (s : ByteArray) (w : World) (B : Nat) (h : RS w B v q) (hq : 8 ≤ q.length) :
    Calls Try.prog 10 #[v, .string s] w fun e w' => e = .returned (.tuple #[v, .bool false]) ∧ w = w' := by
  rcases h with ⟨rfl, rfl⟩ | ⟨b, off, cp, rfl, h1, h2, h3, h4⟩
  · simp at hq
  · clear h4 h3
    go_enter Try.func10, Try.ntmps10
    go_wp2_with fail
    go_ret2
    exact ⟨rfl, rfl⟩
theorem Try.info9 : (Try.prog.info? 9).map (fun i => (i.zero, i.size, i.bytes)) = some (some (.string ⟨#[]⟩), 1, 16) := by kernel_rfl
theorem news_cells {w : World} {b off : Nat} {q : List ByteArray} (h : ∀ i, i < q.length → w.cell? ⟨b, off + i, none⟩ = some (.string (nth q i))) :
    ∀ (j : Nat) (u : Value), (q.map Value.string)[j]? = some u → w.cell? ((⟨b, off, none⟩ : Addr).add j) = some u := by
  intro j u hu
  rw [Go.WideShapes.add_plain]
  rw [List.getElem?_map] at hu
  rcases Nat.lt_or_ge j q.length with hj | hj
  · rw [List.getElem?_eq_getElem hj] at hu
    simp at hu
    rw [h j hj, ← hu]
    simp [nth, hj]
  · rw [List.getElem?_eq_none hj] at hu
    cases hu
theorem one_strings (q : List ByteArray) : ∀ u ∈ q.map Value.string, u.oneCell' = true := by
  intro u hu
  obtain ⟨_, _, rfl⟩ := List.mem_map.1 hu
  rfl
theorem RS.of_owns {w : World} {B : Nat} {v : Value} {q : List ByteArray} (h : w.ownsRow B 9 1 v q.length (q.map Value.string)) : RS w B v q := by
  obtain ⟨h1, ⟨rfl, h2⟩ | ⟨g, cap, cur, rfl, hb, hh, hn, hm, hs, ht⟩⟩ := h
  · exact .inl ⟨rfl, List.length_eq_zero_iff.1 h2⟩
  · refine .inr ⟨g, 0, cap, rfl, hb, hn, ⟨_, _, _, hh⟩, fun i hi => ?_⟩
    have h3 : (cur.toList.take (q.length * 1))[i]? = (q.map Value.string)[i]? := by rw [ht]
    rw [Nat.mul_one, List.getElem?_take_of_lt hi, List.getElem?_map, List.getElem?_eq_getElem hi] at h3
    simp only [World.cell?, hh]
    simp at h3 ⊢
    rw [h3]
    simp [nth, hi]

set_option maxRecDepth 100000 in
theorem refPost_room (b off cp : Nat) (q : List ByteArray) (s : ByteArray) (w : World) (hq : q.length < 8)
    (h : ∀ i, i < q.length → w.cell? ⟨b, off + i, none⟩ = some (.string (nth q i))) :
    Calls Try.prog 10 #[.slice (some ⟨b, off, none⟩) q.length cp, .string s] w fun e w' => ∃ v', e = .returned (.tuple #[v', .bool true]) ∧ Below w.heap.size w w' ∧ RS w' w.heap.size v' (q ++ [s]) := by
  have HN := Lib.hid (news_cells h)
  clear h
  obtain ⟨i0, hi, hz0, hz1, hz2⟩ := info_parts Try.info9
  have own0 : (w.alloc (.cells #[] 9)).ownsRow w.heap.size 9 1 (.slice (some ⟨w.heap.size, 0, none⟩) 0 0) 0 [] := World.ownsRow_made w #[] 0 (Nat.le_refl _) (by unfold maxLen; omega) rfl
  go_enter Try.func10, Try.ntmps10
  go_wp2_with (at_builtin; refine wpList_append_own _ rfl (.tmp 10) (.tmp 11) 26 rfl w.heap.size 9 i0 (.string ⟨#[]⟩) 1 16 Try.underlying26 hi hz0 hz1 hz2 rfl (by decide) (.slice (some ⟨w.heap.size, 0, none⟩) 0 0) 0 [] rfl own0 ⟨b, off, none⟩ q.length cp (q.map Value.string) rfl ?c1 ?c2 ?c3 ?c4 ?c5 ?c6 ?_)
  case c1 => simp
  case c2 => exact fun j u hu => (World.grownBy_alloc w _ none).cell (HN.out j u hu) (by simp)
  case c3 => exact one_strings q
  case c4 => unfold maxLen; omega
  case c5 => omega
  case c6 => simp
  clear own0
  intro v1 w1 hown1 hg1 hne1
  have hb1 : Below w.heap.size w w1 := ((Below.refl _ w).alloc (Nat.le_refl _) _).grown hg1 (by simp) (by intro k hk; simp [Value.ownBlock] at hk; omega)
  clear hg1 hne1
  have hz : w.heap.size ≤ w1.heap.size := hb1.size
  have own1 := hown1.alloc (.cells #[.string s] 9)
  clear hown1 HN
  go_wp2_with (at_builtin; refine wpList_append_own _ rfl (.tmp 12) (.tmp 14) 26 rfl w.heap.size 9 i0 (.string ⟨#[]⟩) 1 16 Try.underlying26 hi hz0 hz1 hz2 rfl (by decide) v1 q.length (q.map Value.string) rfl own1 ⟨w1.heap.size, 0, none⟩ 1 1 [.string s] rfl ?c1 ?c2 ?c3 ?c4 ?c5 ?c6 ?_)
  case c1 => simp
  case c2 => exact cell_one_new _ _ _
  case c3 => intro u hu; simp at hu; subst hu; rfl
  case c4 => unfold maxLen; omega
  case c5 => omega
  case c6 => simp; omega
  intro v2 w2 hown2 hg2 hne2
  have hb2 : Below w.heap.size w w2 := (hb1.alloc hz _).grown hg2 (by simp; omega) (fun k hk => (own1.lt k hk).1)
  clear hg2 hne2 own1
  go_wp2_with fail
  go_ret2
  exact ⟨v2, rfl, hb2, RS.of_owns (by simpa using hown2)⟩

set_option maxRecDepth 100000 in
theorem refPost_nil (s : ByteArray) (w : World) :
    Calls Try.prog 10 #[.slice none 0 0, .string s] w fun e w' => ∃ v', e = .returned (.tuple #[v', .bool true]) ∧ Below w.heap.size w w' ∧ RS w' w.heap.size v' [s] := by
  obtain ⟨i0, hi, hz0, hz1, hz2⟩ := info_parts Try.info9
  have own0 : (w.alloc (.cells #[] 9)).ownsRow w.heap.size 9 1 (.slice (some ⟨w.heap.size, 0, none⟩) 0 0) 0 [] := World.ownsRow_made w #[] 0 (Nat.le_refl _) (by unfold maxLen; omega) rfl
  have happ := fun ty => run_append_room_src (P := Try.prog) (w.alloc (.cells #[] 9)) 26 26 ty 9 i0 Try.underlying26 hi w.heap.size 0 0 0 (.slice none 0 0) 0 [] (Src.ofNil _ Try.underlying26 0) (Nat.le_refl _) (by simp) (by simp)
  have own1 := own0.alloc (.cells #[.string s] 9)
  clear own0
  go_enter Try.func10, Try.ntmps10
  go_wp2_with (at_builtin; refine wpList_append_own _ rfl (.tmp 12) (.tmp 14) 26 rfl w.heap.size 9 i0 (.string ⟨#[]⟩) 1 16 Try.underlying26 hi hz0 hz1 hz2 rfl (by decide) (.slice (some ⟨w.heap.size, 0, none⟩) 0 0) 0 [] rfl own1 ⟨w.heap.size + 1, 0, none⟩ 1 1 [.string s] rfl ?c1 ?c2 ?c3 ?c4 ?c5 ?c6 ?_)
  case c1 => simp
  case c2 =>
    have := cell_one_new (w.alloc (.cells #[] 9)) (.string s) 9
    simpa using this
  case c3 => intro u hu; simp at hu; subst hu; rfl
  case c4 => unfold maxLen; omega
  case c5 => omega
  case c6 => simp; omega
  intro v2 w2 hown2 hg2 hne2
  have hb2 : Below w.heap.size w w2 := (((Below.refl _ w).alloc (Nat.le_refl _) _).alloc (by simp) _).grown hg2 (by simp; omega) (fun k hk => (own1.lt k hk).1)
  clear hg2 hne2 own1 happ
  go_wp2_with fail
  go_ret2
  exact ⟨v2, rfl, hb2, RS.of_owns (q := [s]) (by simpa using hown2)⟩

/-- The reference's Post, where there is room. -/
theorem refPost_any (v : Value) (q : List ByteArray) (s : ByteArray) (w : World) (B : Nat) (h : RS w B v q) (hq : q.length < 8) :
    Calls Try.prog 10 #[v, .string s] w fun e w' => ∃ v', e = .returned (.tuple #[v', .bool true]) ∧ Below w.heap.size w w' ∧ RS w' w.heap.size v' (q ++ [s]) := by
  rcases h with ⟨rfl, rfl⟩ | ⟨b, off, cp, rfl, h1, h2, h3, h4⟩
  · exact refPost_nil s w
  · exact refPost_room b off cp q s w hq h4

theorem refNext_nil (v : Value) (w : World) (B : Nat) (h : RS w B v []) :
    Calls Try.prog 12 #[v] w fun e w' => e = .returned (.tuple #[v, .string ByteArray.empty, .bool false]) ∧ w = w' := by
  rcases h with ⟨rfl, -⟩ | ⟨b, off, cp, rfl, -, -, -, -⟩
  all_goals
    go_enter Try.func12, Try.ntmps12
    go_wp2_with fail
    go_ret3
    exact ⟨rfl, rfl⟩

set_option maxRecDepth 100000 in
theorem refNext_some (v : Value) (x : ByteArray) (q : List ByteArray) (w : World) (B : Nat) (h : RS w B v (x :: q)) :
    Calls Try.prog 12 #[v] w fun e w' => ∃ v' n, e = .returned (.tuple #[v', .string x, .bool true]) ∧ w' = w.drewN n ∧ RS w B v' q := by
  rcases h with ⟨_, h⟩ | ⟨b, off, cp, rfl, h1, h2, h3, h4⟩
  · cases h
  · have hcell : w.cell? ⟨b, off, none⟩ = some (.string x) := h4 0 (by simp)
    simp only [List.length_cons] at h2 h4
    have HR2 := Lib.hid (show RS w B (.slice (some ⟨b, off + 1, none⟩) q.length (cp - 1)) q from .inr ⟨b, off + 1, cp - 1, rfl, h1, by omega, h3, fun i hi => by
      have := h4 (i + 1) (by omega)
      rw [show off + 1 + i = off + (i + 1) by omega]
      exact this⟩)
    have HR1 := Lib.hid (show cp = 1 → RS w B (.slice (some ⟨b, off, none⟩) q.length 0) q from fun hcp => .inr ⟨b, off, 0, rfl, h1, by omega, h3, fun i hi => by omega⟩)
    clear h4 h3
    simp only [List.length_cons]
    by_cases hcp : cp = 1
    · go_enter Try.func12, Try.ntmps12
      go_wp2_with fail
      go_quiet (fail)
      go_wp2_with fail
      go_ret3
      exact ⟨_, _, rfl, rfl, HR1.out hcp⟩
    · go_enter Try.func12, Try.ntmps12
      go_wp2_with fail
      go_quiet (fail)
      go_wp2_with fail
      go_ret3
      exact ⟨_, _, rfl, rfl, HR2.out⟩
end Go.Proofs.Ythpmijaimmlgdaa
