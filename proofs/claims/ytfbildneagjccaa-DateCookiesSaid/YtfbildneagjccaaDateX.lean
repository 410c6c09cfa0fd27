/- Contract: the reference's time. -/
import Derived.Test.YtfbildneagjccaaDateW
import Derived.Deep.CutBlock
import Derived.Deep.DeepCutAuto
namespace Go.Proofs.Ytfbildneagjccaa
open Go.RowKit

theorem infoI : (Try.prog.info? 3).map (fun i => (i.zero, i.size, i.bytes)) = some (some (.int .i64 0), 1, 8) := by kernel_rfl
theorem cell_ltD {w : World} {p : Addr} {v : Value} (h : w.cell? p = some v) : p.block < w.heap.size := by
  unfold World.cell? at h
  rcases Nat.lt_or_ge p.block w.heap.size with h1 | h1
  · exact h1
  · rw [Array.getElem?_eq_none h1] at h
    cases h
/-- What the reference's time hands back. -/
def TimeR (s : ByteArray) (w : World) (e : Ending) (w' : World) : Prop :=
  (timeB s = true ∧ ∃ b cp, e = .returned (.tuple #[.slice (some ⟨b, 0, none⟩) 3 cp, .bool true]) ∧ 3 ≤ cp ∧ w.heap.size ≤ b ∧ b < w'.heap.size ∧ w'.cell? ⟨b, 0, none⟩ = some (.int .i64 (numV s)) ∧ w'.cell? ⟨b, 1, none⟩ = some (.int .i64 (numV (time2 s))) ∧ w'.cell? ⟨b, 2, none⟩ = some (.int .i64 (numV (time2 (time2 s)))) ∧ Below w.heap.size w w') ∨
  (timeB s = false ∧ e = .returned (.tuple #[.slice none 0 0, .bool false]) ∧ Below w.heap.size w w')
theorem TimeR.of_owns {s : ByteArray} {w w' : World} {v : Value} (ht : timeB s = true) (hb : Below w.heap.size w w') (h : w'.ownsRow w.heap.size 3 1 v 3 ([numV s, numV (time2 s), numV (time2 (time2 s))].map (Value.int .i64))) : TimeR s w (.returned (.tuple #[v, .bool true])) w' := by
  obtain ⟨h1, ⟨rfl, h2⟩ | ⟨g, cap, cur, rfl, hB, hh, hn, hm, hs, hl⟩⟩ := h
  · cases h2
  · have c : ∀ i x, i < 3 → ([numV s, numV (time2 s), numV (time2 (time2 s))].map (Value.int .i64))[i]? = some x → w'.cell? ⟨g, i, none⟩ = some x := by
      intro i x hi hx
      have h3 : (cur.toList.take (3 * 1))[i]? = some x := by rw [hl]; exact hx
      rw [Nat.mul_one, List.getElem?_take_of_lt hi] at h3
      simp only [World.cell?, hh]
      simpa using h3
    have c0 := c 0 _ (by decide) rfl
    exact .inl ⟨ht, g, cap, rfl, hn, hB, cell_ltD c0, c0, c 1 _ (by decide) rfl, c 2 _ (by decide) rfl, hb⟩
/-- The rounds' heads. -/
def TQ (s : ByteArray) (k : Nat) (X : ByteArray) (q : List Int) : Prop :=
  (k = 0 ∧ X = s ∧ q = []) ∨
  (k = 1 ∧ X = time2 s ∧ q = [numV s] ∧ (oneTwo s && colonB (afterD s)) = true) ∨
  (k = 2 ∧ X = time2 (time2 s) ∧ q = [numV s, numV (time2 s)] ∧ (oneTwo s && colonB (afterD s)) = true ∧ (oneTwo (time2 s) && colonB (afterD (time2 s))) = true) ∨
  (k = 3 ∧ q = [numV s, numV (time2 s), numV (time2 (time2 s))] ∧ timeB s = true)
theorem TQ.no12 {s X : ByteArray} {k : Nat} {q : List Int} (h : TQ s k X q) (hk : k < 3) (hx : oneTwo X = false) : timeB s = false := by
  rcases h with ⟨rfl, rfl, -⟩ | ⟨rfl, rfl, -, -⟩ | ⟨rfl, rfl, -, -⟩ | ⟨rfl, -⟩
  · exact time_f1 (by rw [hx]; rfl)
  · exact time_f2 (by rw [hx]; rfl)
  · exact time_f3 hx
  · omega
theorem TQ.nocolon {s X : ByteArray} {k : Nat} {q : List Int} (h : TQ s k X q) (hk : k < 2) (hx : colonB (afterD X) = false) : timeB s = false := by
  rcases h with ⟨rfl, rfl, -⟩ | ⟨rfl, rfl, -, -⟩ | ⟨rfl, rfl, -, -⟩ | ⟨rfl, -⟩
  · exact time_f1 (by rw [hx]; simp)
  · exact time_f2 (by rw [hx]; simp)
  · omega
  · omega
theorem TQ.more {s X : ByteArray} {k : Nat} {q : List Int} (h : TQ s k X q) (hk : k < 2) (h1 : oneTwo X = true) (hx : colonB (afterD X) = true) : TQ s (k + 1) (tailS (afterD X)) (q ++ [numV X]) := by
  rcases h with ⟨rfl, rfl, rfl⟩ | ⟨rfl, rfl, rfl, a⟩ | ⟨rfl, rfl, -, -⟩ | ⟨rfl, -⟩
  · exact .inr (.inl ⟨rfl, rfl, rfl, by rw [h1, hx]; rfl⟩)
  · exact .inr (.inr (.inl ⟨rfl, rfl, rfl, a, by rw [h1, hx]; rfl⟩))
  · omega
  · omega
theorem TQ.last {s X : ByteArray} {q : List Int} (h : TQ s 2 X q) (h1 : oneTwo X = true) (Y : ByteArray) : TQ s 3 Y (q ++ [numV X]) := by
  rcases h with ⟨h0, -⟩ | ⟨h0, -⟩ | ⟨-, rfl, rfl, a, b⟩ | ⟨h0, -⟩
  · cases h0
  · cases h0
  · exact .inr (.inr (.inr ⟨rfl, rfl, time_t a b h1⟩))
  · cases h0
theorem TQ.done {s X : ByteArray} {k : Nat} {q : List Int} (h : TQ s k X q) (hk : 3 ≤ k) : q = [numV s, numV (time2 s), numV (time2 (time2 s))] ∧ timeB s = true := by
  rcases h with ⟨h0, -⟩ | ⟨h0, -⟩ | ⟨h0, -⟩ | ⟨-, a, b⟩
  · omega
  · omega
  · omega
  · exact ⟨a, b⟩
theorem TQ.len {s X : ByteArray} {k : Nat} {q : List Int} (h : TQ s k X q) : q.length = k ∧ k ≤ 3 := by
  rcases h with ⟨rfl, -, rfl⟩ | ⟨rfl, -, rfl, -⟩ | ⟨rfl, -, rfl, -⟩ | ⟨rfl, rfl, -⟩ <;> exact ⟨rfl, by decide⟩
theorem colon_at {Y : ByteArray} (h : 0 < Y.size) : colonB Y = (at_ Y 0 == 58) := by
  have h2 : 0 < (bs Y).length := by rw [← size_bs]; exact h
  unfold colonB at_
  cases hb : bs Y with
  | nil => rw [hb] at h2; cases h2
  | cons c l =>
    simp only [List.head?_cons, List.getD_cons_zero]
    rw [Bool.eq_iff_iff]
    simp only [beq_iff_eq, Option.some.injEq]
    constructor
    · rintro rfl; rfl
    · intro h3; exact UInt8.toNat_inj.1 (by simpa using (by omega : c.toNat = 58))
set_option maxHeartbeats 2000000 in
set_option maxRecDepth 100000 in
theorem rtime_any (s : ByteArray) (w : World) (hs : s.size ≤ 9223372036854775806) : Calls Try.prog 48 #[.string s] w (TimeR s w) := by
  obtain ⟨i0, hi, hz0, hz1, hz2⟩ := info_parts infoI
  have own0 : w.ownsRow w.heap.size 3 1 (.slice none 0 0) 0 [] := World.ownsRow_nil w _ _ _
  go_enter Try.func48, Try.ntmps48
  go_wp2_with fail
  go_loopw [0, 4, 5] (fun x v i wr => ∃ (k : Nat) (X : ByteArray) (q : List Int), x = .string X ∧ X.size ≤ 9223372036854775806 ∧ i = .int .i64 k ∧ k ≤ 3 ∧ Hid (TQ s k X q) ∧ q.length = k ∧ wr.ownsRow w.heap.size 3 1 v q.length (q.map (Value.int .i64)) ∧ Below w.heap.size w wr) (fun _ _ i _ => 3 - (intOf i).toNat)
  case atStart => exact ⟨0, s, [], rfl, hs, rfl, by decide, Lib.hid (.inl ⟨rfl, rfl, rfl⟩), rfl, own0, Below.refl _ _⟩
  case round =>
    obtain ⟨k, X, q, rfl, hX, rfl, hk, HR, hq, hown, hb⟩ := hrel
    clear own0
    have hz := hb.size
    by_cases hlt : k < 3
    · cases h12 : oneTwo X
      · have HN := Lib.hid (HR.out.no12 hlt h12)
        have h3 : ndig X < 1 ∨ (1 ≤ ndig X ∧ 2 < ndig X) := by
          have := oneTwo_iff X
          rw [h12] at this
          simp at this
          omega
        clear h12
        rcases h3 with h3 | ⟨h3, h4⟩
        case' inl => have e1 : decide ((ndig X : Int) < 1) = true := by simp; omega
        case' inr =>
          have e1 : decide ((ndig X : Int) < 1) = false := by simp; omega
          have e2 : decide (2 < (ndig X : Int)) = true := by simp; omega
        all_goals
          go_wp2_with fail
          refine (rdigs_any X _ (by omega)).mono ?_
          rintro e w' ⟨rfl, rfl⟩
          go_wp2_with fail
          go_ret2
          exact .inr ⟨HN.out, rfl, hb⟩
      · have h3 := (oneTwo_iff X).1 h12
        obtain ⟨h3, h4⟩ := h3
        have e1 : decide ((ndig X : Int) < 1) = false := by simp; omega
        have e2 : decide (2 < (ndig X : Int)) = false := by simp; omega
        have hle := ndig_le X
        have HU := Lib.hid (unfV_some (unf_num X h3 (by omega)))
        have zA := after_size X
        have hez : (X.extract 0 (ndig X)).size ≤ 9223372036854775807 := by rw [ByteArray.size_extract]; omega
        have own1 := hown.alloc (.cells #[.int .i64 (numV X)] 3)
        have HA : Hid (X.extract (ndig X) X.size = afterD X) := Lib.hid rfl
        clear hown
        by_cases hk2 : k < 2
        · cases hcol : colonB (afterD X)
          · have HN := Lib.hid (HR.out.nocolon hk2 hcol)
            have HO := Lib.hid hcol
            clear h12 hcol
            go_wp2_with fail
            refine (rdigs_any X _ (by omega)).mono ?_
            rintro e w' ⟨rfl, rfl⟩
            go_wp2_with fail
            refine (runfixed_any (X.extract 0 (ndig X)) _ hez).mono ?_
            rintro e w' ⟨rfl, rfl⟩
            rw [HU.out]
            go_wp2_with (at_builtin; refine wpList_append_own _ rfl (.tmp 28) (.tmp 30) 63 rfl w.heap.size 3 i0 (.int .i64 0) 1 8 Try.underlying63 hi hz0 hz1 hz2 rfl (by decide) u4 q.length (q.map (Value.int .i64)) rfl own1 ⟨wr.heap.size, 0, none⟩ 1 1 [.int .i64 (numV X)] rfl ?c1 ?c2 ?c3 ?c4 ?c5 ?c6 ?_)
            case c1 => simp
            case c2 => exact cell_one_new _ _ _
            case c3 => intro u hu; simp at hu; subst hu; rfl
            case c4 => unfold maxLen; omega
            case c5 => omega
            case c6 => simp; omega
            intro v2 w2 hown2 hg2 hne2
            have hb2 : Below w.heap.size w w2 := (hb.alloc hz _).grown hg2 (by simp; omega) (fun k hk => (own1.lt k hk).1)
            clear hg2 hne2 own1
            go_upto_region 12 with fail
            generalize hY : X.extract (ndig X) X.size = Y at *
            have hcol' : colonB Y = false := by rw [← hY]; exact HO.out
            rcases Nat.eq_zero_or_pos Y.size with hy0 | hy0
            case' inl => have e3 : ((Y.size : Int) == 0) = true := by rw [hy0]; rfl
            case' inr =>
              have e3 : ((Y.size : Int) == 0) = false := beq_eq_false_iff_ne.2 (by omega)
              have e4 : (((Y[0]'hy0).toNat : Int) != 58) = true := by rw [at_get Y 0 hy0, bne, ← colon_at hy0, hcol']; rfl
            all_goals
              go_wp2_with fail
              go_ret2
              exact .inr ⟨HN.out, rfl, hb2⟩
          · have HM := Lib.hid (HR.out.more hk2 h12 hcol)
            have hcs := colon_size hcol
            have HO := Lib.hid hcol
            clear h12 hcol
            go_wp2_with fail
            refine (rdigs_any X _ (by omega)).mono ?_
            rintro e w' ⟨rfl, rfl⟩
            go_wp2_with fail
            refine (runfixed_any (X.extract 0 (ndig X)) _ hez).mono ?_
            rintro e w' ⟨rfl, rfl⟩
            rw [HU.out]
            go_wp2_with (at_builtin; refine wpList_append_own _ rfl (.tmp 28) (.tmp 30) 63 rfl w.heap.size 3 i0 (.int .i64 0) 1 8 Try.underlying63 hi hz0 hz1 hz2 rfl (by decide) u4 q.length (q.map (Value.int .i64)) rfl own1 ⟨wr.heap.size, 0, none⟩ 1 1 [.int .i64 (numV X)] rfl ?c1 ?c2 ?c3 ?c4 ?c5 ?c6 ?_)
            case c1 => simp
            case c2 => exact cell_one_new _ _ _
            case c3 => intro u hu; simp at hu; subst hu; rfl
            case c4 => unfold maxLen; omega
            case c5 => omega
            case c6 => simp; omega
            intro v2 w2 hown2 hg2 hne2
            have hb2 : Below w.heap.size w w2 := (hb.alloc hz _).grown hg2 (by simp; omega) (fun k hk => (own1.lt k hk).1)
            clear hg2 hne2 own1
            go_upto_region 12 with fail
            generalize hY : X.extract (ndig X) X.size = Y at *
            have hy0 : 0 < Y.size := by rw [← hY]; exact hcs
            have e3 : ((Y.size : Int) == 0) = false := beq_eq_false_iff_ne.2 (by omega)
            have e4 : (((Y[0]'hy0).toNat : Int) != 58) = false := by rw [at_get Y 0 hy0, bne, ← colon_at hy0, ← hY]; show (!(colonB (afterD X))) = false; rw [HO.out]; rfl
            have zY : Y.size ≤ X.size := by rw [← hY]; exact zA
            have HYY := Lib.hid hY
            clear hY
            go_wp2_with fail
            go_roundw
            case rel => exact ⟨k + 1, Y.extract 1 Y.size, q ++ [numV X], rfl, by rw [ByteArray.size_extract]; omega, by go_num, by omega, by rw [← HYY.out]; exact HM, by simp; omega, by simpa [hq] using hown2, hb2⟩
            case measure => simp [intOf]; omega
        · obtain rfl : k = 2 := by omega
          have HM := Lib.hid (HR.out.last h12 (afterD X))
          clear h12
          go_wp2_with fail
          refine (rdigs_any X _ (by omega)).mono ?_
          rintro e w' ⟨rfl, rfl⟩
          go_wp2_with fail
          refine (runfixed_any (X.extract 0 (ndig X)) _ hez).mono ?_
          rintro e w' ⟨rfl, rfl⟩
          rw [HU.out]
          go_wp2_with (at_builtin; refine wpList_append_own _ rfl (.tmp 28) (.tmp 30) 63 rfl w.heap.size 3 i0 (.int .i64 0) 1 8 Try.underlying63 hi hz0 hz1 hz2 rfl (by decide) u4 q.length (q.map (Value.int .i64)) rfl own1 ⟨wr.heap.size, 0, none⟩ 1 1 [.int .i64 (numV X)] rfl ?c1 ?c2 ?c3 ?c4 ?c5 ?c6 ?_)
          case c1 => simp
          case c2 => exact cell_one_new _ _ _
          case c3 => intro u hu; simp at hu; subst hu; rfl
          case c4 => unfold maxLen; omega
          case c5 => omega
          case c6 => simp; omega
          intro v2 w2 hown2 hg2 hne2
          have hb2 : Below w.heap.size w w2 := (hb.alloc hz _).grown hg2 (by simp; omega) (fun k hk => (own1.lt k hk).1)
          clear hg2 hne2 own1
          go_wp2_with fail
          go_roundw
          case rel => exact ⟨3, afterD X, q ++ [numV X], rfl, by omega, rfl, by decide, HM, by simp; omega, by simpa [hq] using hown2, hb2⟩
          case measure => simp [intOf]
    · have HD := Lib.hid (HR.out.done (by omega))
      go_wp2_with fail
      go_ret2
      obtain ⟨rfl, ht⟩ := HD.out
      exact TimeR.of_owns ht hb hown
end Go.Proofs.Ytfbildneagjccaa

