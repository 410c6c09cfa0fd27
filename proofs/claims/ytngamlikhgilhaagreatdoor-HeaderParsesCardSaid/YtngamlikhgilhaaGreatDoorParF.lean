/- The statement HeaderParses: the walk. -/
import Derived.Test.YtngamlikhgilhaaGreatDoorParE
namespace Go.Proofs.YtngamlikhgilhaaGreatDoor
open Go.RowKit Go.Shelf

theorem rpar16_any (s : ByteArray) (now : Int) (w : World) (hs : s.size ≤ 1000) :
    Calls Tryz.prog 9 #[.string s, .int .i64 now] w fun e w' => e = .returned (parV (parH s now)) ∧ Below w.heap.size w w' := by
  cases hq : segs (bs s) with
  | nil => exact absurd hq (segs_ne _)
  | cons f r =>
    by_cases k0 : now < 0
    · exact rpar_low s now w hs f r hq k0
    by_cases k1 : 253402300799 < now
    · exact rpar_high s now w hs f r hq (by omega) k1
    cases h : hasS (mk f)
    · exact rpar_has s now w hs f r hq (by omega) (by omega) h
    by_cases h2 : nameS (mk f) = ⟨#[]⟩
    · exact rpar_name s now w hs f r hq (by omega) (by omega) h h2
    · exact rpar_good s now w hs f r hq (by omega) (by omega) h h2
/-- What holds of a header while it is read. -/
structure Fine (n : ByteArray) (p : Hd × Int) : Prop where
  nm : p.1.nm = n
  e0 : 0 ≤ p.1.ex
  e1 : p.1.ex ≤ 253402300799
  a0 : 0 ≤ p.2
  a1 : p.2 ≤ 253402300799
theorem attK_fine (k : Nat) (h : Hd) (v : ByteArray) (h0 : 0 ≤ h.ex) (h1 : h.ex ≤ 253402300799) : (attK k h v).nm = h.nm ∧ 0 ≤ (attK k h v).ex ∧ (attK k h v).ex ≤ 253402300799 := by
  unfold attK
  split
  · split
    · refine ⟨rfl, ?_, ?_⟩
      · show 0 ≤ clampN _
        unfold clampN; omega
      · show clampN _ ≤ _
        unfold clampN; omega
    · exact ⟨rfl, h0, h1⟩
  · split
    · exact ⟨rfl, h0, h1⟩
    · exact ⟨rfl, h0, h1⟩
  · exact ⟨rfl, h0, h1⟩
  · exact ⟨rfl, h0, h1⟩
  · exact ⟨rfl, h0, h1⟩
  · exact ⟨rfl, h0, h1⟩
  · exact ⟨rfl, h0, h1⟩
theorem fine_step {n : ByteArray} {p : Hd × Int} (H : Fine n p) (now : Int) (hn : 0 ≤ now) (l : List UInt8) : Fine n (stepH now p l) := by
  obtain ⟨h1, h2, h3⟩ := attK_fine (kindN (nameS (mk l))) p.1 (valueS (mk l)) H.e0 H.e1
  refine ⟨h1.trans H.nm, h2, h3, ?_, ?_⟩
  · show 0 ≤ agK _ _ _ _
    have := H.a0
    unfold agK
    split
    · split
      · omega
      split
      · omega
      · omega
    · omega
  · show agK _ _ _ _ ≤ _
    have := H.a1
    unfold agK
    split
    · split
      · omega
      split
      · omega
      · omega
    · omega
theorem fine_fold {n : ByteArray} {p : Hd × Int} (H : Fine n p) (now : Int) (hn : 0 ≤ now) (r : List (List UInt8)) : Fine n (r.foldl (stepH now) p) := by
  induction r generalizing p with
  | nil => exact H
  | cons x r ih => rw [List.foldl_cons]; exact ih (fine_step H now hn x)
theorem par_fine {s : ByteArray} {now : Int} {h : Hd} (hp : parH s now = some h) : h.nm ≠ ⟨#[]⟩ ∧ 0 ≤ h.ex ∧ h.ex ≤ 253402300799 := by
  cases hq : segs (bs s) with
  | nil => exact absurd hq (segs_ne _)
  | cons f r =>
    rw [par_hd hq f r rfl] at hp
    split at hp
    · rename_i hc
      have F := fine_fold (n := nameS (mk f)) (p := (⟨nameS (mk f), valueS (mk f), ⟨#[]⟩, ⟨#[]⟩, 0, false, false, 0⟩, 0)) ⟨rfl, Int.le_refl _, (by decide : (0 : Int) ≤ 253402300799), Int.le_refl _, (by decide : (0 : Int) ≤ 253402300799)⟩ now hc.1 r
      injection hp with h1
      rw [← h1]
      generalize r.foldl (stepH now) (⟨nameS (mk f), valueS (mk f), ⟨#[]⟩, ⟨#[]⟩, 0, false, false, 0⟩, 0) = p at *
      have hn : p.1.nm ≠ ⟨#[]⟩ := by rw [F.nm]; exact hc.2.2.2
      unfold endH
      split
      · exact ⟨hn, F.a0, F.a1⟩
      · exact ⟨hn, F.e0, F.e1⟩
    · cases hp
set_option maxHeartbeats 1000000 in
set_option maxRecDepth 100000 in
theorem parses_two (s : ByteArray) (now : Int) (w : World) (nm vl dm pt : ByteArray) (ex : Int) (se ho : Bool) (st : Int) (d : Bool) (hs : s.size ≤ 1000) (hn0 : -9223372036854775808 ≤ now) (hn1 : now ≤ 9223372036854775807) (hm : HasMax w)
    (hp : parV (parH s now) = .tuple #[.agg #[.string nm, .string vl, .string dm, .string pt, .int .i64 ex, .bool se, .bool ho, .int .i64 st], .bool d]) (hd : d = true → nm ≠ ⟨#[]⟩ ∧ 0 ≤ ex ∧ ex ≤ 253402300799) :
    Calls Tryz.prog 3 #[.string s, .int .i64 now] w fun e w' => e = .returned (.bool true) ∧ Below w.heap.size w w' := by
  have HM := Lib.hid (fun w1 (h : Below w.heap.size w w1) => max_keep hm h)
  have HV := Lib.hid hp
  clear hm hp
  cases d
  · clear hd
    go_enter Tryz.func3, Tryz.ntmps3
    go_wp2_with fail
    refine (par_any s now _ (by omega) hn0 hn1).mono ?_
    rintro e w1 ⟨rfl, hb⟩
    rw [HV.out]
    go_wp2_with fail
    obtain ⟨v1, ev, A, hk, hb1, -⟩ := box_hd nm vl dm pt ex se ho st w w1 24 hb
    rw [← ev]
    generalize w1.heap.size = b1 at *
    clear ev hk hb
    refine (rpar16_any s now _ hs).mono ?_
    rintro e w2 ⟨rfl, hu⟩
    rw [HV.out]
    replace A := A.keep hu
    replace hb1 := hb1.trans (hu.mono hb1.size)
    clear hu
    go_wp2_with fail
    obtain ⟨v2, ev, B, hk, hb2, -⟩ := box_hd nm vl dm pt ex se ho st w w2 27 hb1
    rw [← ev]
    replace A := hk _ _ A
    generalize w2.heap.size = b2 at *
    clear ev hk hb1
    refine (alive_any _ (HM.out _ hb2)).mono ?_
    rintro e w3 ⟨rfl, hu⟩
    replace A := A.keep hu
    replace B := B.keep hu
    replace hb2 := hb2.trans (hu.mono hb2.size)
    obtain ⟨c0, c1, c2, c3, c4, c5, c6, c7⟩ := A.cells
    obtain ⟨d0, d1, d2, d3, d4, d5, d6, d7⟩ := B.cells
    dsimp only at c0 c1 c2 c3 c4 c5 c6 c7 d0 d1 d2 d3 d4 d5 d6 d7
    clear hu A B
    go_wp2_with fail
    go_ret
    exact ⟨by simp, hb2⟩
  · obtain ⟨h1, h2, h3⟩ := hd rfl
    have qn := str_ne0 h1
    clear hd h1
    go_enter Tryz.func3, Tryz.ntmps3
    go_wp2_with fail
    refine (par_any s now _ (by omega) hn0 hn1).mono ?_
    rintro e w1 ⟨rfl, hb⟩
    rw [HV.out]
    go_wp2_with fail
    obtain ⟨v1, ev, A, hk, hb1, -⟩ := box_hd nm vl dm pt ex se ho st w w1 24 hb
    rw [← ev]
    generalize w1.heap.size = b1 at *
    clear ev hk hb
    refine (rpar16_any s now _ hs).mono ?_
    rintro e w2 ⟨rfl, hu⟩
    rw [HV.out]
    replace A := A.keep hu
    replace hb1 := hb1.trans (hu.mono hb1.size)
    clear hu
    go_wp2_with fail
    obtain ⟨v2, ev, B, hk, hb2, -⟩ := box_hd nm vl dm pt ex se ho st w w2 27 hb1
    rw [← ev]
    replace A := hk _ _ A
    generalize w2.heap.size = b2 at *
    clear ev hk hb1
    refine (alive_any _ (HM.out _ hb2)).mono ?_
    rintro e w3 ⟨rfl, hu⟩
    replace A := A.keep hu
    replace B := B.keep hu
    replace hb2 := hb2.trans (hu.mono hb2.size)
    obtain ⟨c0, c1, c2, c3, c4, c5, c6, c7⟩ := A.cells
    obtain ⟨d0, d1, d2, d3, d4, d5, d6, d7⟩ := B.cells
    dsimp only at c0 c1 c2 c3 c4 c5 c6 c7 d0 d1 d2 d3 d4 d5 d6 d7
    clear hu A B
    go_wp2_with fail
    go_ret
    exact ⟨by simp, hb2⟩
set_option maxRecDepth 100000 in
theorem headerParses_any (s : ByteArray) (now : Int) (w : World) (_ : s.size ≤ 140737488351232) (hnow : (Lit.int .i64 now).wf = true) (hm : HasMax w) :
    Calls Tryz.prog 3 #[.string s, .int .i64 now] w fun e w' => e = .returned (.bool true) ∧ Below w.heap.size w w' := by
  obtain ⟨hn0, hn1⟩ := i64_in hnow
  clear hnow
  by_cases hbig : 1000 < s.size
  · have HM := Lib.hid (fun w1 (h : Below w.heap.size w w1) => max_keep hm h)
    clear hm
    go_enter Tryz.func3, Tryz.ntmps3
    go_wp2_with fail
    refine (alive_any _ (HM.out _ (Below.refl _ _))).mono ?_
    rintro e w' ⟨rfl, hb⟩
    go_wp2_with fail
    go_ret
    exact ⟨rfl, hb⟩
  · cases hp : parH s now with
    | none => exact parses_two s now w ⟨#[]⟩ ⟨#[]⟩ ⟨#[]⟩ ⟨#[]⟩ 0 false false 0 false (by omega) hn0 hn1 hm (by rw [hp]; rfl) (fun h => by cases h)
    | some h =>
      obtain ⟨nm, vl, dm, pt, ex, se, ho, st⟩ := h
      exact parses_two s now w nm vl dm pt ex se ho st true (by omega) hn0 hn1 hm (by rw [hp]; rfl) (fun _ => par_fine hp)
end Go.Proofs.YtngamlikhgilhaaGreatDoor
