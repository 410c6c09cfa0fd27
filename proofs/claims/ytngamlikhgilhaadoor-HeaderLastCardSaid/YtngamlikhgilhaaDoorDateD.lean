/- Contracts: the readers of a cookie's date, and the iterator over a text's words. -/
import Derived.Test.YtngamlikhgilhaaDoorDateC
import Derived.RangeFuncNested
import Derived.RangeFuncBound
import Derived.RangeFuncCalls
import Derived.RangeFuncLeaves
import Derived.OwnWalkIn
import Derived.TacticsInMore
import Derived.LoopNIn
import Derived.LoopIn
namespace Go.Proofs.YtngamlikhgilhaaDoor
open Go.RowKit

/-- One reader's doing: t: it reads the word. -/
def StepP (t : Bool) (b : Nat) (y m d h n s y' m' d' h' n' s' : Int) (w : World) (e : Ending) (w' : World) : Prop :=
  e = .returned (.bool t) ∧ w.grownBy w' (some b) ∧ (t = true → ClkAt w' b y' m' d' h' n' s') ∧ (t = false → ClkAt w' b y m d h n s)
set_option maxRecDepth 100000 in
theorem reads_1 (x : ByteArray) (b : Nat) (y m d h n s : Int) (w : World) (hs : x.size ≤ 9223372036854775807) (hC : ClkAt w b y m d h n s) (hb : b < w.heap.size) :
    Calls Tryd.prog 24 #[.string x, .pointer (some ⟨b, 0, none⟩)] w (StepP (timeB x) b y m d h n s y m d (numV x) (numV (time2 x)) (numV (time2 (time2 x))) w) := by
  have HC := Lib.hid hC
  clear hC
  go_enter Tryd.func24, Tryd.ntmps24
  go_wp2_with fail
  refine (time_any x b y m d h n s _ hs HC.out hb).mono ?_
  rintro e w1 (⟨h1, rfl, h2, h3⟩ | ⟨h1, rfl, h2, h3⟩)
  all_goals
    have H1 := Lib.hid h1
    have H2 := Lib.hid h2
    have H3 := Lib.hid h3
    clear h1 h2 h3
    go_wp2_with fail
    go_ret
    rw [H1.out]
    exact ⟨rfl, H3.out, (fun h => by first | exact H2.out | cases h), (fun h => by first | exact H2.out | cases h)⟩
theorem num1_yes {s : ByteArray} {w w' : World} {e : Ending} (h1 : oneTwo s = true) (h : NumP1 s w e w') : e = .returned (.tuple #[.int .i64 (numV s), .string (afterD s), .bool true]) ∧ ∃ n, w' = w.drewN n := by
  unfold NumP1 at h; rw [if_pos h1] at h; exact h
theorem num1_no {s : ByteArray} {w w' : World} {e : Ending} (h1 : oneTwo s = false) (h : NumP1 s w e w') : e = .returned (.tuple #[.int .i64 0, .string ⟨#[]⟩, .bool false]) ∧ ∃ n, w' = w.drewN n := by
  unfold NumP1 at h; rw [if_neg (by rw [h1]; simp)] at h; exact h
set_option maxRecDepth 100000 in
theorem reads_2 (x : ByteArray) (b : Nat) (y m d h n s : Int) (w : World) (hs : x.size ≤ 9223372036854775807) (hC : ClkAt w b y m d h n s) (_hb : b < w.heap.size) :
    Calls Tryd.prog 26 #[.string x, .pointer (some ⟨b, 0, none⟩)] w (StepP (oneTwo x) b y m d h n s y m (numV x) h n s w) := by
  have HC := Lib.hid hC
  obtain ⟨c0, c1, c2, c3, c4, c5, fz⟩ := hC
  cases hv : oneTwo x
  all_goals
    have HV := Lib.hid hv
    clear hv
    go_enter Tryd.func26, Tryd.ntmps26
    go_wp2_with fail
    refine (number_1 x _ hs).mono ?_
    intro e w1 hn
  · obtain ⟨rfl, k, rfl⟩ := num1_no HV.out hn
    clear hn
    go_wp2_with fail
    go_ret
    exact ⟨rfl, GB_drewN _ _ _, (fun h => by cases h), fun _ => HC.out.drewN k⟩
  · obtain ⟨rfl, k, rfl⟩ := num1_yes HV.out hn
    clear hn
    go_wp2_with fail
    go_ret
    exact ⟨rfl, (GB_drewN _ k _).trans (GB_set _ _ _ _), fun _ => (HC.out.drewN k).s2 _, (fun h => by cases h)⟩
theorem num2_yes {s : ByteArray} {w w' : World} {e : Ending} (h1 : twoFour s = true) (h : NumP2 s w e w') : e = .returned (.tuple #[.int .i64 (numV s), .string (afterD s), .bool true]) ∧ ∃ n, w' = w.drewN n := by
  unfold NumP2 at h; rw [if_pos h1] at h; exact h
theorem num2_no {s : ByteArray} {w w' : World} {e : Ending} (h1 : twoFour s = false) (h : NumP2 s w e w') : e = .returned (.tuple #[.int .i64 0, .string ⟨#[]⟩, .bool false]) ∧ ∃ n, w' = w.drewN n := by
  unfold NumP2 at h; rw [if_neg (by rw [h1]; simp)] at h; exact h
set_option maxRecDepth 100000 in
theorem reads_4 (x : ByteArray) (b : Nat) (y m d h n s : Int) (w : World) (hs : x.size ≤ 9223372036854775807) (hC : ClkAt w b y m d h n s) (_hb : b < w.heap.size) :
    Calls Tryd.prog 30 #[.string x, .pointer (some ⟨b, 0, none⟩)] w (StepP (twoFour x) b y m d h n s (numV x) m d h n s w) := by
  have HC := Lib.hid hC
  obtain ⟨c0, c1, c2, c3, c4, c5, fz⟩ := hC
  cases hv : twoFour x
  all_goals
    have HV := Lib.hid hv
    clear hv
    go_enter Tryd.func30, Tryd.ntmps30
    go_wp2_with fail
    refine (number_2 x _ hs).mono ?_
    intro e w1 hn
  · obtain ⟨rfl, k, rfl⟩ := num2_no HV.out hn
    clear hn
    go_wp2_with fail
    go_ret
    exact ⟨rfl, GB_drewN _ _ _, (fun h => by cases h), fun _ => HC.out.drewN k⟩
  · obtain ⟨rfl, k, rfl⟩ := num2_yes HV.out hn
    clear hn
    go_wp2_with fail
    go_ret
    exact ⟨rfl, (GB_drewN _ k _).trans (GB_set _ _ _ _), fun _ => (HC.out.drewN k).s0 _, (fun h => by cases h)⟩
def monB (x : ByteArray) : Bool := decide (0 < monthN x)
set_option maxRecDepth 100000 in
theorem reads_3 (x : ByteArray) (b : Nat) (y m d h n s : Int) (w : World) (hs : x.size ≤ 9223372036854775807) (hC : ClkAt w b y m d h n s) (hb : b < w.heap.size) :
    Calls Tryd.prog 28 #[.string x, .pointer (some ⟨b, 0, none⟩)] w (StepP (monB x) b y m d h n s y (monthN x) d h n s w) := by
  have HC := Lib.hid hC
  clear hC
  cases hv : monB x
  all_goals
    have HV := Lib.hid (show monV x = .tuple #[.int .i64 (monthN x), .bool (monB x)] from rfl)
    have HW := Lib.hid hv
    clear hv
    go_enter Tryd.func28, Tryd.ntmps28
    go_wp2_with fail
    refine (month_any x _ hs).mono ?_
    rintro e w1 ⟨rfl, hb1⟩
    rw [HV.out, HW.out]
    have hC1 := HC.out.below hb hb1
    have HC1 := Lib.hid hC1
    obtain ⟨c0, c1, c2, c3, c4, c5, fz⟩ := hC1
    have HG := Lib.hid (GB_below hb1 (some b))
    clear hb1
    go_wp2_with fail
    go_ret
  · exact ⟨rfl, HG.out, (fun h => by cases h), fun _ => HC1.out⟩
  · exact ⟨rfl, HG.out.trans (GB_set _ _ _ _), fun _ => HC1.out.s1 _, (fun h => by cases h)⟩
set_option maxRecDepth 100000 in
theorem words_any (s : ByteArray) (w : World) : Calls Tryd.prog 31 #[.string s] w fun e w' => e = .returned (.func (.func 49) #[] #[.pointer (some ⟨w.heap.size, 0, none⟩)]) ∧ w' = w.alloc (.cells #[.string s] 9) := by
  go_enter Tryd.func31, Tryd.ntmps31
  go_wp2_with fail
  go_ret
  exact ⟨rfl, rfl⟩
/-- A word, not longer than any text. -/
abbrev Wd := { x : ByteArray // x.size ≤ 9223372036854775807 }
/-- The words that have come, and what is left. -/
def WordsAt (s : ByteArray) (pre : List Wd) (f k : Nat) : Prop := wordsA [] (bs s) = pre.map (fun x => bs x.1) ++ wordsA (((bs s).take k).drop f) ((bs s).drop k)
theorem wordsAt_start (s : ByteArray) : WordsAt s [] 0 0 := by simp [WordsAt]
theorem drop_at (s : ByteArray) (k : Nat) (h : k < s.size) : (bs s).drop k = s[k] :: (bs s).drop (k + 1) := by
  rw [List.drop_eq_getElem_cons (by rw [← size_bs]; exact h)]
  rfl
theorem cur_snoc (s : ByteArray) (f k : Nat) (hf : f ≤ k) (h : k < s.size) : ((bs s).take (k + 1)).drop f = ((bs s).take k).drop f ++ [s[k]] := by
  rw [take_snoc s k h, List.drop_append_of_le_length (by rw [List.length_take, ← size_bs]; omega)]
theorem cur_nil (s : ByteArray) (k : Nat) : ((bs s).take k).drop k = [] := by rw [List.drop_eq_nil_iff, List.length_take]; omega
theorem cur_ne (s : ByteArray) (f k : Nat) (hf : f < k) (h : k ≤ s.size) : ((bs s).take k).drop f ≠ [] := by
  rw [Ne, List.drop_eq_nil_iff, List.length_take, ← size_bs]; omega
theorem wordsAt_skip {s : ByteArray} {pre : List Wd} {f k : Nat} (h : WordsAt s pre f k) (hf : f ≤ k) (hk : k < s.size) (hp : partsB ((s[k]'hk).toNat : Int) = false) : WordsAt s pre f (k + 1) := by
  unfold WordsAt at *
  rw [h, drop_at s k hk, cur_snoc s f k hf hk]
  rw [wordsA, if_neg (by rw [hp]; simp)]
theorem wordsAt_none {s : ByteArray} {pre : List Wd} {k : Nat} (h : WordsAt s pre k k) (hk : k < s.size) (hp : partsB ((s[k]'hk).toNat : Int) = true) : WordsAt s pre (k + 1) (k + 1) := by
  unfold WordsAt at *
  rw [h, drop_at s k hk, cur_nil, cur_nil, wordsA, if_pos hp, if_pos rfl]
theorem wordsAt_word {s : ByteArray} {pre : List Wd} {f k : Nat} (h : WordsAt s pre f k) (hf : f < k) (hk : k < s.size) (hp : partsB ((s[k]'hk).toNat : Int) = true) (x : Wd) (hx : x.1 = s.extract f k) : WordsAt s (pre ++ [x]) (k + 1) (k + 1) := by
  unfold WordsAt at *
  rw [h, drop_at s k hk, cur_nil, wordsA, if_pos hp, if_neg (cur_ne s f k hf (by omega)), List.map_append, List.append_assoc]
  congr 1
  simp only [List.map_cons, List.map_nil, hx, bs_extract]
  rfl
theorem wordsAt_end {s : ByteArray} {pre : List Wd} {k : Nat} (h : WordsAt s pre k k) (hk : s.size ≤ k) : wordsS s = pre.map (·.1) := by
  unfold WordsAt at h
  unfold wordsS
  rw [cur_nil, List.drop_of_length_le (by rw [← size_bs]; exact hk), wordsA, if_pos rfl, List.append_nil] at h
  rw [h, List.map_map]
  exact List.map_congr_left fun x _ => mk_bs x.1
theorem wordsAt_last {s : ByteArray} {pre : List Wd} {f k : Nat} (h : WordsAt s pre f k) (hf : f < k) (hk : k = s.size) (x : Wd) (hx : x.1 = s.extract f k) : WordsAt s (pre ++ [x]) (k + 1) (k + 1) := by
  unfold WordsAt at *
  rw [h, cur_nil, List.drop_of_length_le (l := bs s) (i := k) (by rw [← size_bs, hk]; exact Nat.le_refl _), List.drop_of_length_le (l := bs s) (i := k + 1) (by rw [← size_bs, hk]; omega), wordsA, if_neg (cur_ne s f k hf (by omega)), wordsA, if_pos rfl, List.map_append, List.append_assoc]
  congr 1
  simp only [List.map_cons, List.map_nil, hx, bs_extract]
  rfl
theorem wordsAt_over {s : ByteArray} {pre : List Wd} {k : Nat} (h : WordsAt s pre k k) (hk : k = s.size) : WordsAt s pre (k + 1) (k + 1) := by
  unfold WordsAt at *
  rw [h, cur_nil, cur_nil, List.drop_of_length_le (l := bs s) (i := k) (by rw [← size_bs, hk]; exact Nat.le_refl _), List.drop_of_length_le (l := bs s) (i := k + 1) (by rw [← size_bs, hk]; omega)]
end Go.Proofs.YtngamlikhgilhaaDoor
