/- Contracts: the reference's Iso and Uniso; the walks of DateIso and DateUniso. -/
import Derived.Test.YtfbildneagjccaaDateO
import Derived.Test.YtfbildneagjccaaCivilS
namespace Go.Proofs.Ytfbildneagjccaa
open Go.RowKit

theorem rof_nat (t : Int) (w : World) (h1 : 0 ≤ t) (h2 : t ≤ 253402300799) : Calls Try.prog 38 #[.int .i64 t] w (ClockP t w) :=
  (rof_yes t w (by omega) h2).mono fun _ _ h => clockP_of h
def OfAny (w : World) (e : Ending) (w' : World) : Prop := ∃ (y m d h n s : Int) (b : Bool), e = .returned (.tuple #[.agg #[.int .i64 y, .int .i64 m, .int .i64 d, .int .i64 h, .int .i64 n, .int .i64 s], .bool b]) ∧ Below w.heap.size w w'
theorem rof_any (t : Int) (w : World) : Calls Try.prog 38 #[.int .i64 t] w (OfAny w) := by
  by_cases h : t < -62135596800 ∨ 253402300799 < t
  · exact (rof_no t w h).mono fun _ _ ⟨he, hb⟩ => ⟨_, _, _, _, _, _, _, he, hb⟩
  · exact (rof_yes t w (by omega) (by omega)).mono fun _ _ ⟨y, m, d, hh, n, s, he, _, _, hb⟩ => ⟨y, m, d, hh, n, s, true, he, hb⟩
set_option maxRecDepth 100000 in
theorem rtwo_any (n : Nat) (hn : n < 100) (w : World) : Calls Try.prog 40 #[.int .i64 n] w fun e w' => e = .returned (.string (fixS 2 n)) ∧ Below w.heap.size w w' := by
  go_enter Try.func40, Try.ntmps40
  go_wp2_with fail
  refine (rfixed_any n 2 (by decide) (by decide) hn _).mono ?_
  rintro e w1 ⟨rfl, hb⟩
  go_wp2_with fail
  go_ret
  exact ⟨rfl, hb⟩
theorem rfixed_4 (n : Nat) (hn : n < 10 ^ 4) (w : World) : Calls Try.prog 41 #[.int .i64 n, .int .i64 4] w fun e w' => e = .returned (.string (fixS 4 n)) ∧ Below w.heap.size w w' := rfixed_any n 4 (by decide) (by decide) hn w
set_option maxRecDepth 100000 in
theorem riso_no (t : Int) (w : World) (h : t < 0 ∨ 253402300799 < t) : Calls Try.prog 16 #[.int .i64 t] w fun e w' => e = .returned (.tuple #[.string ⟨#[]⟩, .bool false]) ∧ Below w.heap.size w w' := by
  have h' : t < 0 ∨ (¬ t < 0 ∧ 253402300799 < t) := by omega
  clear h
  rcases h' with h | ⟨h, h'⟩
  all_goals
    go_enter Try.func16, Try.ntmps16
    go_wp2_with fail
    refine (rof_any t _).mono ?_
    rintro e w1 ⟨y, m, d, hh, n, s, b, rfl, hb⟩
    go_wp2_with fail
    go_ret2
    exact ⟨rfl, hb.alloc hb.size _⟩
theorem iso_flat (y m d h n s : Nat) : isoS y m d h n s = fixS 4 y ++ (⟨#[45]⟩ : ByteArray) ++ fixS 2 m ++ (⟨#[45]⟩ : ByteArray) ++ fixS 2 d ++ (⟨#[84]⟩ : ByteArray) ++ fixS 2 h ++ (⟨#[58]⟩ : ByteArray) ++ fixS 2 n ++ (⟨#[58]⟩ : ByteArray) ++ fixS 2 s ++ (⟨#[90]⟩ : ByteArray) := by
  unfold isoS handS
  simp only [ByteArray.append_assoc]
set_option maxHeartbeats 2000000 in
set_option maxRecDepth 100000 in
theorem riso_yes (t : Int) (w : World) (h1 : 0 ≤ t) (h2 : t ≤ 253402300799) : Calls Try.prog 16 #[.int .i64 t] w (IsoP t w) := by
  have k1 : ¬ t < 0 := by omega
  have k2 : ¬ 253402300799 < t := by omega
  go_enter Try.func16, Try.ntmps16
  go_wp2_with fail
  refine (rof_nat t _ h1 h2).mono ?_
  rintro e w1 ⟨y, m, d, h, n, s, hc, rfl, hb⟩
  have HC := Lib.hid hc
  have HB := Lib.hid hb
  have q1 := hc.y1
  have q2 : m < 100 := by have := hc.m1; omega
  have q3 := hc.d1
  have q4 := hc.h1
  have q5 := hc.n1
  have q6 := hc.s1
  clear hc hb
  have zy := fixS_size 4 y
  have z2 := fixS_size 2
  have HV := Lib.hid (iso_flat y m d h n s)
  have c0 : ∀ x : BW (w1.alloc (.cells #[.int .i64 y, .int .i64 m, .int .i64 d, .int .i64 h, .int .i64 n, .int .i64 s] 44)), x.W.cell? ⟨w1.heap.size, 0, none⟩ = some (.int .i64 y) := fun x => (x.cell _ _ (by simp)).trans (by rw [World.cell?_alloc_new]; rfl)
  have c1 : ∀ x : BW (w1.alloc (.cells #[.int .i64 y, .int .i64 m, .int .i64 d, .int .i64 h, .int .i64 n, .int .i64 s] 44)), x.W.cell? ⟨w1.heap.size, 1, none⟩ = some (.int .i64 m) := fun x => (x.cell _ _ (by simp)).trans (by rw [World.cell?_alloc_new]; rfl)
  have c2 : ∀ x : BW (w1.alloc (.cells #[.int .i64 y, .int .i64 m, .int .i64 d, .int .i64 h, .int .i64 n, .int .i64 s] 44)), x.W.cell? ⟨w1.heap.size, 2, none⟩ = some (.int .i64 d) := fun x => (x.cell _ _ (by simp)).trans (by rw [World.cell?_alloc_new]; rfl)
  have c3 : ∀ x : BW (w1.alloc (.cells #[.int .i64 y, .int .i64 m, .int .i64 d, .int .i64 h, .int .i64 n, .int .i64 s] 44)), x.W.cell? ⟨w1.heap.size, 3, none⟩ = some (.int .i64 h) := fun x => (x.cell _ _ (by simp)).trans (by rw [World.cell?_alloc_new]; rfl)
  have c4 : ∀ x : BW (w1.alloc (.cells #[.int .i64 y, .int .i64 m, .int .i64 d, .int .i64 h, .int .i64 n, .int .i64 s] 44)), x.W.cell? ⟨w1.heap.size, 4, none⟩ = some (.int .i64 n) := fun x => (x.cell _ _ (by simp)).trans (by rw [World.cell?_alloc_new]; rfl)
  have c5 : ∀ x : BW (w1.alloc (.cells #[.int .i64 y, .int .i64 m, .int .i64 d, .int .i64 h, .int .i64 n, .int .i64 s] 44)), x.W.cell? ⟨w1.heap.size, 5, none⟩ = some (.int .i64 s) := fun x => (x.cell _ _ (by simp)).trans (by rw [World.cell?_alloc_new]; rfl)
  go_wp2_with fail
  refine wp_region_class (by kernel_rfl) (by kernel_rfl) ?_
  repeat (go_big_quiet_step (first
    | (go_at_call 41; with_reducible exact BW.call (rfixed_4 y q1 _))
    | (go_at_call 40; first | with_reducible exact BW.call (rtwo_any m q2 _) | with_reducible exact BW.call (rtwo_any d q3 _) | with_reducible exact BW.call (rtwo_any h q4 _) | with_reducible exact BW.call (rtwo_any n q5 _) | with_reducible exact BW.call (rtwo_any s q6 _))))
  refine wpQuiet_nil ?_
  rintro Wx ⟨x, rfl⟩
  have hx := x.bel
  go_wp2_with fail
  go_ret2
  exact ⟨y, m, d, h, n, s, HC.out, by rw [HV.out]; rfl, Below.trans (HB.out.alloc HB.out.size _) (hx.mono (by have := HB.out.size; simp; omega))⟩
set_option maxHeartbeats 4000000 in
set_option maxRecDepth 100000 in
theorem runiso_any (s : ByteArray) (w : World) (_hs : s.size ≤ 9223372036854775806) : Calls Try.prog 18 #[.string s] w fun e w' => (∃ v, e = .returned v ∧ UnV s v) ∧ Below w.heap.size w w' := by
  by_cases hz : s.size = 20
  case neg =>
    have HU := Lib.hid (UnV.size hz)
    have hz1 : ((s.size : Int) != 20) = true := by simp; omega
    have hz2 : (s.size != 20) = true := by simp; omega
    go_enter Try.func18, Try.ntmps18
    go_wp2_with fail
    go_ret2
    exact ⟨⟨_, rfl, HU.out⟩, Below.refl _ _⟩
  have hz1 : ((s.size : Int) != 20) = false := by simp; omega
  have hz2 : (s.size != 20) = false := by simp; omega
  have hzx : ∀ a b, (s.extract a b).size ≤ 9223372036854775807 := fun a b => by rw [ByteArray.size_extract]; omega
  have HX := Lib.hid hzx
  have t0 : (4 : Int) ≤ (s.size : Int) := by omega
  have t1 : (7 : Int) ≤ (s.size : Int) := by omega
  have t2 : (10 : Int) ≤ (s.size : Int) := by omega
  have t3 : (13 : Int) ≤ (s.size : Int) := by omega
  have t4 : (16 : Int) ≤ (s.size : Int) := by omega
  have t5 : (19 : Int) ≤ (s.size : Int) := by omega
  clear hz hzx
  go_enter Try.func18, Try.ntmps18
  go_wp2_with fail
  refine (runfixed_any (s.extract 0 4) _ (HX.out _ _)).mono ?_
  rintro e w1 ⟨rfl, rfl⟩
  rw [show unfV (unfO (s.extract 0 4)) = .tuple #[.int .i64 (numAt s 0 4), .bool (unfO (s.extract 0 4)).isSome] from rfl]
  go_wp2_with fail
  refine (runfixed_any (s.extract 5 7) _ (HX.out _ _)).mono ?_
  rintro e w1 ⟨rfl, rfl⟩
  rw [show unfV (unfO (s.extract 5 7)) = .tuple #[.int .i64 (numAt s 5 7), .bool (unfO (s.extract 5 7)).isSome] from rfl]
  go_wp2_with fail
  refine (runfixed_any (s.extract 8 10) _ (HX.out _ _)).mono ?_
  rintro e w1 ⟨rfl, rfl⟩
  rw [show unfV (unfO (s.extract 8 10)) = .tuple #[.int .i64 (numAt s 8 10), .bool (unfO (s.extract 8 10)).isSome] from rfl]
  go_wp2_with fail
  refine (runfixed_any (s.extract 11 13) _ (HX.out _ _)).mono ?_
  rintro e w1 ⟨rfl, rfl⟩
  rw [show unfV (unfO (s.extract 11 13)) = .tuple #[.int .i64 (numAt s 11 13), .bool (unfO (s.extract 11 13)).isSome] from rfl]
  go_wp2_with fail
  refine (runfixed_any (s.extract 14 16) _ (HX.out _ _)).mono ?_
  rintro e w1 ⟨rfl, rfl⟩
  rw [show unfV (unfO (s.extract 14 16)) = .tuple #[.int .i64 (numAt s 14 16), .bool (unfO (s.extract 14 16)).isSome] from rfl]
  go_wp2_with fail
  refine (runfixed_any (s.extract 17 19) _ (HX.out _ _)).mono ?_
  rintro e w1 ⟨rfl, rfl⟩
  rw [show unfV (unfO (s.extract 17 19)) = .tuple #[.int .i64 (numAt s 17 19), .bool (unfO (s.extract 17 19)).isSome] from rfl]
  by_cases hv : vclk (numAt s 0 4) (numAt s 5 7) (numAt s 8 10) (numAt s 11 13) (numAt s 14 16) (numAt s 17 19)
  · have HV := Lib.hid hv
    obtain ⟨p1, p2⟩ := secs_bd hv
    have HNE := Lib.hid (fun (y m d h n sc : Nat) => @UnV.ne s y m d h n sc)
    have HNG := Lib.hid (@UnV.neg s)
    have HYE := Lib.hid (fun h0 h1 (y m d h n sc : Nat) => @UnV.yes s (secs (numAt s 0 4) (numAt s 5 7) (numAt s 8 10) (numAt s 11 13) (numAt s 14 16) (numAt s 17 19)) y m d h n sc h0 h1)
    clear hv
    go_wp2_with fail
    refine (repoch_yes _ _ _ _ _ _ _ HV.out).mono ?_
    rintro e w1 ⟨rfl, hb1⟩
    generalize secs (numAt s 0 4) (numAt s 5 7) (numAt s 8 10) (numAt s 11 13) (numAt s 14 16) (numAt s 17 19) = t at p1 p2 HNE HNG HYE ⊢
    by_cases hneg : t < 0
    · have HU := Lib.hid (HNG.out hneg)
      go_wp2_with fail
      refine (riso_no t _ (.inl hneg)).mono ?_
      rintro e w2 ⟨rfl, hb2⟩
      go_wp2_with fail
      go_ret2
      exact ⟨⟨_, rfl, HU.out⟩, Bsnoc hb1 hb2⟩
    · have hpos : 0 ≤ t := by omega
      go_wp2_with fail
      refine (riso_yes t _ hpos p2).mono ?_
      rintro e w2 ⟨y, m, d, h, n, sc, hc, rfl, hb2⟩
      by_cases he : isoS y m d h n sc = s
      · have HU := Lib.hid (HYE.out hpos p2 _ _ _ _ _ _ hc he)
        have hq : ((isoS y m d h n sc).toList == s.toList) = true := (str_ne _ _).2 he
        have hq2 : ((isoS y m d h n sc).toList != s.toList) = false := by rw [bne, hq]; rfl
        clear he hc
        go_wp2_with fail
        go_ret2
        exact ⟨⟨_, rfl, HU.out⟩, Bsnoc hb1 hb2⟩
      · have HU := Lib.hid (HNE.out _ _ _ _ _ _ hc he)
        have hq : ((isoS y m d h n sc).toList == s.toList) = false := by rw [← Bool.not_eq_true, str_ne]; exact he
        have hq2 : ((isoS y m d h n sc).toList != s.toList) = true := by rw [bne, hq]; rfl
        clear he hc
        go_wp2_with fail
        go_ret2
        exact ⟨⟨_, rfl, HU.out⟩, Bsnoc hb1 hb2⟩
  · have HU := Lib.hid (UnV.nov hv)
    have HV := Lib.hid hv
    clear hv
    go_wp2_with fail
    refine (repoch_no _ _ _ _ _ _ _ HV.out).mono ?_
    rintro e w1 ⟨rfl, hb1⟩
    go_wp2_with fail
    refine (riso_yes 0 _ (by decide) (by decide)).mono ?_
    rintro e w2 ⟨y, m, d, h, n, sc, hc, rfl, hb2⟩
    clear hc
    go_wp2_with fail
    go_ret2
    exact ⟨⟨_, rfl, HU.out⟩, Bsnoc hb1 hb2⟩
/-- Both are one. -/
theorem UnV.uniq {s : ByteArray} {v v' : Value} (a : UnV s v) (b : UnV s v') : v = v' := by
  rcases a with ⟨t, h1, rfl⟩ | ⟨h1, rfl⟩ <;> rcases b with ⟨t', h2, rfl⟩ | ⟨h2, rfl⟩
  · rw [isIso_uniq h1 h2]
  · exact absurd h1 (h2 _)
  · exact absurd h2 (h1 _)
  · rfl
theorem uniso_at (s : ByteArray) (v : Value) (hv : UnV s v) (w : World) (hs : s.size ≤ 9223372036854775806) : Calls Try.prog 17 #[.string s] w fun e w' => e = .returned v ∧ Below w.heap.size w w' :=
  (uniso_any s w hs).mono fun _ _ ⟨⟨_, he, hu⟩, hb⟩ => ⟨by rw [he, hu.uniq hv], hb⟩
theorem runiso_at (s : ByteArray) (v : Value) (hv : UnV s v) (w : World) (hs : s.size ≤ 9223372036854775806) : Calls Try.prog 18 #[.string s] w fun e w' => e = .returned v ∧ Below w.heap.size w w' :=
  (runiso_any s w hs).mono fun _ _ ⟨⟨_, he, hu⟩, hb⟩ => ⟨by rw [he, hu.uniq hv], hb⟩
theorem iso_at (t : Int) {y m d h n s : Nat} (hc : CkN t y m d h n s) (w : World) (h1 : 0 ≤ t) (h2 : t ≤ 253402300799) : Calls Try.prog 15 #[.int .i64 t] w fun e w' => e = .returned (.tuple #[.string (isoS y m d h n s), .bool true]) ∧ Below w.heap.size w w' := by
  refine (iso_yes t w h1 h2).mono ?_
  rintro e w' ⟨y', m', d', h', n', s', hc', rfl, hb⟩
  obtain ⟨rfl, rfl, rfl, rfl, rfl, rfl⟩ := hc.uniq hc'
  exact ⟨rfl, hb⟩
theorem riso_at (t : Int) {y m d h n s : Nat} (hc : CkN t y m d h n s) (w : World) (h1 : 0 ≤ t) (h2 : t ≤ 253402300799) : Calls Try.prog 16 #[.int .i64 t] w fun e w' => e = .returned (.tuple #[.string (isoS y m d h n s), .bool true]) ∧ Below w.heap.size w w' := by
  refine (riso_yes t w h1 h2).mono ?_
  rintro e w' ⟨y', m', d', h', n', s', hc', rfl, hb⟩
  obtain ⟨rfl, rfl, rfl, rfl, rfl, rfl⟩ := hc.uniq hc'
  exact ⟨rfl, hb⟩
theorem UnV.empty : UnV ⟨#[]⟩ (.tuple #[.int .i64 0, .bool false]) := UnV.size (by decide)
set_option maxHeartbeats 1000000 in
set_option maxRecDepth 100000 in
theorem dateUniso_any (s : ByteArray) (w : World) (hs0 : s.size ≤ 140737488351232) :
    Calls Try.prog 6 #[.string s] w fun e w' => e = .returned (.bool true) ∧ Below w.heap.size w w' := by
  have hs : s.size ≤ 9223372036854775806 := by omega
  have hv : (∃ t, IsIso s t) ∨ (∀ t, ¬ IsIso s t) := by
    by_cases h : ∃ t, IsIso s t
    · exact .inl h
    · exact .inr fun t ht => h ⟨t, ht⟩
  rcases hv with ⟨t, ht⟩ | hn
  · have HU := Lib.hid (show UnV s (.tuple #[.int .i64 t, .bool true]) from .inl ⟨t, ht, rfl⟩)
    obtain ⟨h1, h2, y, m, d, h, n, sc, hc, rfl⟩ := ht
    have HC := Lib.hid hc
    clear hc
    go_enter Try.func6, Try.ntmps6
    go_wp2_with fail
    refine (uniso_at _ _ HU.out _ hs).mono ?_
    rintro e w1 ⟨rfl, hb1⟩
    go_wp2_with fail
    refine (runiso_at _ _ HU.out _ hs).mono ?_
    rintro e w2 ⟨rfl, hb2⟩
    go_wp2_with fail
    refine (iso_at t HC.out _ h1 h2).mono ?_
    rintro e w3 ⟨rfl, hb3⟩
    go_wp2_with fail
    refine (dalive_any _).mono ?_
    rintro e w4 ⟨rfl, hb4⟩
    have hB := Bsnoc (Bsnoc (Bsnoc hb1 hb2) hb3) hb4
    clear hb1 hb2 hb3 hb4
    go_wp2_with fail
    go_ret
    exact ⟨by simp, hB⟩
  · have HU := Lib.hid (show UnV s (.tuple #[.int .i64 0, .bool false]) from .inr ⟨hn, rfl⟩)
    obtain ⟨y, m, d, h, n, sc, hc⟩ : ∃ y m d h n sc : Nat, CkN 0 y m d h n sc := ⟨1970, 1, 1, 0, 0, 0, ⟨by decide, by decide, by decide, by decide, by decide, by decide, by decide, by decide, by decide⟩⟩
    have HC := Lib.hid hc
    clear hc hn
    go_enter Try.func6, Try.ntmps6
    go_wp2_with fail
    refine (uniso_at _ _ HU.out _ hs).mono ?_
    rintro e w1 ⟨rfl, hb1⟩
    go_wp2_with fail
    refine (runiso_at _ _ HU.out _ hs).mono ?_
    rintro e w2 ⟨rfl, hb2⟩
    go_wp2_with fail
    refine (iso_at 0 HC.out _ (by decide) (by decide)).mono ?_
    rintro e w3 ⟨rfl, hb3⟩
    go_wp2_with fail
    refine (dalive_any _).mono ?_
    rintro e w4 ⟨rfl, hb4⟩
    have hB := Bsnoc (Bsnoc (Bsnoc hb1 hb2) hb3) hb4
    clear hb1 hb2 hb3 hb4
    go_wp2_with fail
    go_ret
    exact ⟨by simp, hB⟩
set_option maxHeartbeats 1000000 in
set_option maxRecDepth 100000 in
theorem dateIso_any (t : Int) (w : World) (_ : (Lit.int .i64 t).wf = true) :
    Calls Try.prog 5 #[.int .i64 t] w fun e w' => e = .returned (.bool true) ∧ Below w.heap.size w w' := by
  by_cases hr : 0 ≤ t ∧ t ≤ 253402300799
  · obtain ⟨h1, h2⟩ := hr
    go_enter Try.func5, Try.ntmps5
    go_wp2_with fail
    refine (iso_yes t _ h1 h2).mono ?_
    rintro e w1 ⟨y, m, d, h, n, s, hc, rfl, hb1⟩
    have HC := Lib.hid hc
    have HU := Lib.hid (show UnV (isoS y m d h n s) (.tuple #[.int .i64 t, .bool true]) from .inl ⟨t, ⟨h1, h2, _, _, _, _, _, _, hc, rfl⟩, rfl⟩)
    have hz := isoS_size y m d h n s
    clear hc
    go_wp2_with fail
    refine (riso_at t HC.out _ h1 h2).mono ?_
    rintro e w2 ⟨rfl, hb2⟩
    go_wp2_with fail
    refine (uniso_at _ _ HU.out _ (by rw [hz]; decide)).mono ?_
    rintro e w3 ⟨rfl, hb3⟩
    go_wp2_with fail
    refine (dalive_any _).mono ?_
    rintro e w4 ⟨rfl, hb4⟩
    have hB := Bsnoc (Bsnoc (Bsnoc hb1 hb2) hb3) hb4
    clear hb1 hb2 hb3 hb4
    go_wp2_with fail
    go_ret
    exact ⟨by simp, hB⟩
  · have hr2 : t < 0 ∨ 253402300799 < t := by omega
    have HR := Lib.hid hr2
    clear hr hr2
    go_enter Try.func5, Try.ntmps5
    go_wp2_with fail
    refine (iso_no t _ HR.out).mono ?_
    rintro e w1 ⟨rfl, hb1⟩
    go_wp2_with fail
    refine (riso_no t _ HR.out).mono ?_
    rintro e w2 ⟨rfl, hb2⟩
    go_wp2_with fail
    refine (uniso_at ⟨#[]⟩ _ UnV.empty _ (by decide)).mono ?_
    rintro e w3 ⟨rfl, hb3⟩
    go_wp2_with fail
    refine (dalive_any _).mono ?_
    rintro e w4 ⟨rfl, hb4⟩
    have hB := Bsnoc (Bsnoc (Bsnoc hb1 hb2) hb3) hb4
    clear hb1 hb2 hb3 hb4
    go_wp2_with fail
    go_ret
    exact ⟨by simp, hB⟩
end Go.Proofs.Ytfbildneagjccaa
