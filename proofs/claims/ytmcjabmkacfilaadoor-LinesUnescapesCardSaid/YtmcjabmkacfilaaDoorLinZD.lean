/- The contract of the reference's Unescape. -/
import Derived.Test.YtmcjabmkacfilaaDoorLinV
import Derived.Deep.CutBlock
import Derived.Deep.DeepCutAuto
namespace Go.Proofs.YtmcjabmkacfilaaDoor
open Go.RowKit Go.Shelf

/-- The byte that a text by backslashes could begin with. -/
def guess : List UInt8 → UInt8
  | [] => 0
  | [c] => c
  | c :: d :: _ => if c = 92 then (if d = 116 then 9 else if d = 110 then 10 else if d = 114 then 13 else 92) else c
theorem guess_esc (c : UInt8) (r : List UInt8) : guess (escB c ++ r) = c := by
  unfold escB
  by_cases h1 : c = 92
  · subst h1; rfl
  rw [if_neg h1]
  by_cases h2 : c = 9
  · subst h2; rfl
  rw [if_neg h2]
  by_cases h3 : c = 10
  · subst h3; rfl
  rw [if_neg h3]
  by_cases h4 : c = 13
  · subst h4; rfl
  rw [if_neg h4]
  cases r with
  | nil => rfl
  | cons d r => exact if_neg h1
def escL (t : List UInt8) : List UInt8 := t.flatMap escB
theorem unescA_app : ∀ (t r : List UInt8), unescA (escL t ++ r) = (unescA r).map (t ++ ·)
  | [], r => by unfold escL; rw [List.flatMap_nil, List.nil_append]; cases unescA r <;> simp
  | c :: t, r => by
    unfold escL
    rw [List.flatMap_cons, List.append_assoc, unescA_esc, show t.flatMap escB ++ r = escL t ++ r from rfl, unescA_app t r]
    cases unescA r <;> simp
theorem unescO_some {s : ByteArray} {t : List UInt8} (h : bs s = escL t) : unescO s = some (mk t) := by
  have e : s = escS (mk t) := bs_inj (by rw [h]; rfl)
  rw [e, unesc_esc]
theorem unescO_none {s r : ByteArray} {t : List UInt8} (h : bs s = escL t ++ bs r) (h0 : bs r ≠ []) (hp : ¬ escB (guess (bs r)) <+: bs r) : unescO s = none := by
  unfold unescO
  cases hu : unescA (bs s) with
  | none => rfl
  | some t' =>
    by_cases he : escS (mk t') = s
    · exfalso
      have e1 : escL t' = escL t ++ bs r := by rw [← h, ← he]; rfl
      have e2 := unescA_app t (bs r)
      rw [← e1, show escL t' = t'.flatMap escB from rfl, unescA_all] at e2
      cases hr : unescA (bs r) with
      | none => rw [hr] at e2; cases e2
      | some t2 =>
        rw [hr] at e2
        have e3 : t' = t ++ t2 := by injection e2
        have e4 : escL t2 = bs r := by
          rw [e3] at e1
          unfold escL at e1 ⊢
          rw [List.flatMap_append] at e1
          exact List.append_cancel_left e1
        cases t2 with
        | nil => exact h0 (by rw [← e4]; rfl)
        | cons c u =>
          unfold escL at e4
          rw [List.flatMap_cons] at e4
          apply hp
          rw [← e4, guess_esc]
          exact List.prefix_append _ _
    · exact if_neg he
theorem guess_at {r : ByteArray} (h : 0 < r.size) : guess (bs r) = if h2 : 1 < r.size then (if r[0] = 92 then (if r[1] = 116 then (9 : UInt8) else if r[1] = 110 then 10 else if r[1] = 114 then 13 else 92) else r[0]) else r[0] := by
  have e := drop_at r 0 h
  rw [List.drop_zero] at e
  rw [e]
  split
  · rename_i h2
    rw [drop_at r 1 h2]
    rfl
  · rename_i h2
    rw [drop_end r (0 + 1) (by omega)]
    rfl
theorem escB_pos (c : UInt8) : 1 ≤ (escB c).length := by
  unfold escB
  repeat' split
  all_goals simp
theorem pre_ext {r E : ByteArray} (h : bs E <+: bs r) : E.size ≤ r.size ∧ r.extract 0 E.size = E ∧ bs r = bs E ++ bs (r.extract E.size r.size) := by
  obtain ⟨u, hu⟩ := h
  have hz : r.size = E.size + u.length := by rw [size_bs, ← hu, List.length_append, ← size_bs]
  refine ⟨by omega, ?_, ?_⟩
  · apply bs_inj
    rw [bs_extract, List.drop_zero, ← hu, size_bs E, List.take_left]
  · rw [bs_extract, List.take_of_length_le (by rw [← size_bs]; exact Nat.le_refl _), ← hu, size_bs E, List.drop_left]
theorem not_pre {r E : ByteArray} (h : ¬ bs E <+: bs r) : r.extract 0 E.size ≠ E := by
  intro e
  apply h
  have : bs (r.extract 0 E.size) = bs E := by rw [e]
  rw [bs_extract, List.drop_zero] at this
  rw [← this]
  exact List.take_prefix _ _
theorem _root_.Go.World.ownsRow.keepB {w w' : World} {B : Nat} {e : TypeId} {size : Nat} {v : Value} {n : Nat} {xs : List Value} (h : w.ownsRow B e size v n xs) (hb : Below w.heap.size w w') : w'.ownsRow B e size v n xs := by
  obtain ⟨h1, ⟨rfl, h2⟩ | ⟨g, cap, cur, rfl, k1, k2, k3⟩⟩ := h
  · exact ⟨h1, .inl ⟨rfl, h2⟩⟩
  · exact ⟨h1, .inr ⟨g, cap, cur, rfl, k1, (hb.block g (Array.getElem?_eq_some_iff.1 k2).1).trans k2, k3⟩⟩
set_option maxRecDepth 100000 in
set_option maxHeartbeats 2000000 in
theorem runescape_any (s : ByteArray) (w : World) (hs : s.size ≤ 1000000) : Calls Tryd.prog 24 #[.string s] w fun e w' => e = .returned (optV (unescO s)) ∧ Below w.heap.size w w' := by
  obtain ⟨i0, hi, hz0', hz1', hz2⟩ := info_parts info5
  have own0 : w.ownsRow w.heap.size 5 1 (.slice none 0 0) 0 [] := World.ownsRow_nil w _ _ _
  go_enter Tryd.func24, Tryd.ntmps24
  go_wp2_with fail
  go_loopw [0, 4, 5, 6] (fun rv v _ _ wr => ∃ (r : ByteArray) (t : List UInt8), rv = .string r ∧ Hid (bs s = escL t ++ bs r) ∧ t.length + r.size ≤ s.size ∧ wr.ownsRow w.heap.size 5 1 v t.length (cellsU t) ∧ Below w.heap.size w wr) (fun rv _ _ _ _ => match rv with | .string r => r.size | _ => 0)
  case atStart => exact ⟨s, [], rfl, Lib.hid rfl, by simp, own0, Below.refl _ _⟩
  case round =>
    obtain ⟨r, t, rfl, HU, ht, hown, hb⟩ := hrel
    clear own0
    have hz := hb.size
    rcases Nat.eq_zero_or_pos r.size with h0 | h0
    · obtain rfl : r = ⟨#[]⟩ := bs_inj (List.length_eq_zero_iff.1 (by rw [← size_bs]; exact h0))
      have HN : Hid (unescO s = some (mk t)) := Lib.hid (unescO_some (by rw [HU.out]; simp [bs]))
      have hcv := conv_own hown
      clear HU hown h0
      go_wp2_with fail
      go_ret2
      exact ⟨by rw [HN.out]; rfl, hb⟩
    · have p0 : (0 : Int) < (r.size : Int) := by omega
      have hne : bs r ≠ [] := by intro e; rw [size_bs, e] at h0; cases h0
      have S9 : ∀ W, Calls Tryd.prog 42 #[.int .u8 9] W fun e w' => e = .returned (.string (mk (escB 9))) ∧ Below W.heap.size W w' := resc1_any 9
      have S10 : ∀ W, Calls Tryd.prog 42 #[.int .u8 10] W fun e w' => e = .returned (.string (mk (escB 10))) ∧ Below W.heap.size W w' := resc1_any 10
      have S13 : ∀ W, Calls Tryd.prog 42 #[.int .u8 13] W fun e w' => e = .returned (.string (mk (escB 13))) ∧ Below W.heap.size W w' := resc1_any 13
      have S92 : ∀ W, Calls Tryd.prog 42 #[.int .u8 92] W fun e w' => e = .returned (.string (mk (escB 92))) ∧ Below W.heap.size W w' := resc1_any 92
      have HG := guess_at h0
      by_cases hc : r[0] = 92
      · have e1 : (r[0].toNat : Int) = 92 := by rw [hc]; rfl
        have e2 : ((r[0].toNat : Int) == 92) = true := by rw [e1]; rfl
        by_cases h1 : 1 < r.size
        · have l1 : (1 : Int) < (r.size : Int) := by omega
          have l2 : decide ((1 : Int) < (r.size : Int)) = true := decide_eq_true l1
          rw [dif_pos h1, if_pos hc] at HG
          by_cases d116 : r[1] = 116
          · have HGC : Hid (guess (bs r) = 9) := Lib.hid (by rw [HG, if_pos d116])
            have y116 : (r[1].toNat : Int) = 116 := by rw [d116]; rfl
            have z116 : ((r[1].toNat : Int) == 116) = true := by rw [y116]; rfl
            clear HG hc d116 
            have HPR : Hid (¬ bs (mk (escB 9)) <+: bs r → unescO s = none) := Lib.hid (fun h => unescO_none HU.out hne (by rw [HGC.out]; exact h))
            have hcl := escB_len 9
            have hcp := escB_pos 9
            rw [← bs_mk (escB 9), ← size_bs] at hcl hcp
            by_cases hp : bs (mk (escB 9)) <+: bs r
            · obtain ⟨x1, x2, x3⟩ := pre_ext hp
              have HX := Lib.hid x2
              have HN : Hid (bs s = escL (t ++ [9]) ++ bs (r.extract (mk (escB 9)).size r.size)) := Lib.hid (by
                rw [HU.out]
                conv => lhs; rw [x3]
                unfold escL
                rw [List.flatMap_append, List.append_assoc]
                simp [bs_mk])
              have hxz : (r.extract (mk (escB 9)).size r.size).size = r.size - (mk (escB 9)).size := by rw [ByteArray.size_extract]; omega
              have hq : ((r.extract 0 (mk (escB 9)).size).toList != (mk (escB 9)).toList) = false := by rw [x2, bne, str_eq]; rfl
              have hq3 : ((r.extract 0 (mk (escB 9)).size).toList == (mk (escB 9)).toList) = true := by rw [x2]; exact str_eq _
              have n1 : ¬ r.size < (mk (escB 9)).size := by omega
              have n2 : decide (r.size < (mk (escB 9)).size) = false := decide_eq_false n1
              have q0 : ((mk (escB 9)).size : Int) ≤ (r.size : Int) := by omega
              have q1 : ¬ ((r.size : Int) < ((mk (escB 9)).size : Int)) := by omega
              have q2 : decide ((r.size : Int) < ((mk (escB 9)).size : Int)) = false := decide_eq_false q1
              clear HPR hp x2 x3 HU HGC
              go_wp2_with fail
              refine (S9 _).mono ?_
              rintro e w1 ⟨rfl, hb1⟩
              generalize mk (escB 9) = E at *
              have hB1 := Lsnoc hb hb1
              have hz1 := hB1.size
              have hown1 := hown.keepB hb1
              have own1 := hown1.alloc (.cells #[.int .u8 9] 5)
              clear hown hown1
              go_wp2_with (at_builtin; refine wpList_append_own _ rfl (.tmp 42) (.tmp 44) 37 rfl w.heap.size 5 i0 (.int .u8 0) 1 1 Tryd.underlying37 hi hz0' hz1' hz2 rfl (by decide) u4 t.length (cellsU t) rfl own1 ⟨w1.heap.size, 0, none⟩ 1 1 [.int .u8 9] rfl ?b1 ?b2 ?b3 ?b4 ?b5 ?b6 ?_)
              try (case b1 => simp)
              try (case b2 => exact cell_one_new _ _ _)
              case b3 => first | (intro u hu; simp at hu; subst hu; rfl) | rfl
              case b4 => unfold maxLen; omega
              case b5 => omega
              case b6 => first | (simp; omega) | omega
              intro v2 w2 hown2 hg2 hne2
              have hb2 : Below w.heap.size w w2 := (hB1.alloc hz1 _).grown hg2 (by simp; omega) (fun k hk => (own1.lt k hk).1)
              clear hg2 hne2 own1
              go_wp2_with fail
              go_roundw
              case rel => exact ⟨_, t ++ [9], rfl, HN, by rw [List.length_append, List.length_singleton]; omega, by rw [List.length_append, List.length_singleton]; exact (show cellsU (t ++ [9]) = cellsU t ++ [.int .u8 9] from by unfold cellsU; rw [List.map_append]; rfl) ▸ hown2, hb2⟩
              case measure => dsimp only; omega
            · have HN := Lib.hid (HPR.out hp)
              by_cases hsz : (mk (escB 9)).size ≤ r.size
              · have hq : ((r.extract 0 (mk (escB 9)).size).toList != (mk (escB 9)).toList) = true := by rw [bne, str_ne (not_pre hp)]; rfl
                have hq3 : ((r.extract 0 (mk (escB 9)).size).toList == (mk (escB 9)).toList) = false := str_ne (not_pre hp)
                have n1 : ¬ r.size < (mk (escB 9)).size := by omega
                have n2 : decide (r.size < (mk (escB 9)).size) = false := decide_eq_false n1
                have q0 : ((mk (escB 9)).size : Int) ≤ (r.size : Int) := by omega
                have q1 : ¬ ((r.size : Int) < ((mk (escB 9)).size : Int)) := by omega
                have q2 : decide ((r.size : Int) < ((mk (escB 9)).size : Int)) = false := decide_eq_false q1
                clear HPR hp HU HGC
                go_wp2_with fail
                refine (S9 _).mono ?_
                rintro e w1 ⟨rfl, hb1⟩
                generalize mk (escB 9) = E at *
                have hB1 := Lsnoc hb hb1
                have hz1 := hB1.size
                go_wp2_with fail
                go_ret2
                exact ⟨by rw [HN.out]; rfl, hB1⟩
              · have n1 : r.size < (mk (escB 9)).size := by omega
                have n2 : decide (r.size < (mk (escB 9)).size) = true := decide_eq_true n1
                have q1 : (r.size : Int) < ((mk (escB 9)).size : Int) := by omega
                have q2 : decide ((r.size : Int) < ((mk (escB 9)).size : Int)) = true := decide_eq_true q1
                clear HPR hp HU HGC
                go_wp2_with fail
                refine (S9 _).mono ?_
                rintro e w1 ⟨rfl, hb1⟩
                generalize mk (escB 9) = E at *
                have hB1 := Lsnoc hb hb1
                have hz1 := hB1.size
                go_wp2_with fail
                go_ret2
                exact ⟨by rw [HN.out]; rfl, hB1⟩
          by_cases d110 : r[1] = 110
          · have HGC : Hid (guess (bs r) = 10) := Lib.hid (by rw [HG, if_neg d116, if_pos d110])
            obtain ⟨y116, z116⟩ := ne_int (n := 116) (by decide) d116
            have y110 : (r[1].toNat : Int) = 110 := by rw [d110]; rfl
            have z110 : ((r[1].toNat : Int) == 110) = true := by rw [y110]; rfl
            clear HG hc d110 d116
            have HPR : Hid (¬ bs (mk (escB 10)) <+: bs r → unescO s = none) := Lib.hid (fun h => unescO_none HU.out hne (by rw [HGC.out]; exact h))
            have hcl := escB_len 10
            have hcp := escB_pos 10
            rw [← bs_mk (escB 10), ← size_bs] at hcl hcp
            by_cases hp : bs (mk (escB 10)) <+: bs r
            · obtain ⟨x1, x2, x3⟩ := pre_ext hp
              have HX := Lib.hid x2
              have HN : Hid (bs s = escL (t ++ [10]) ++ bs (r.extract (mk (escB 10)).size r.size)) := Lib.hid (by
                rw [HU.out]
                conv => lhs; rw [x3]
                unfold escL
                rw [List.flatMap_append, List.append_assoc]
                simp [bs_mk])
              have hxz : (r.extract (mk (escB 10)).size r.size).size = r.size - (mk (escB 10)).size := by rw [ByteArray.size_extract]; omega
              have hq : ((r.extract 0 (mk (escB 10)).size).toList != (mk (escB 10)).toList) = false := by rw [x2, bne, str_eq]; rfl
              have hq3 : ((r.extract 0 (mk (escB 10)).size).toList == (mk (escB 10)).toList) = true := by rw [x2]; exact str_eq _
              have n1 : ¬ r.size < (mk (escB 10)).size := by omega
              have n2 : decide (r.size < (mk (escB 10)).size) = false := decide_eq_false n1
              have q0 : ((mk (escB 10)).size : Int) ≤ (r.size : Int) := by omega
              have q1 : ¬ ((r.size : Int) < ((mk (escB 10)).size : Int)) := by omega
              have q2 : decide ((r.size : Int) < ((mk (escB 10)).size : Int)) = false := decide_eq_false q1
              clear HPR hp x2 x3 HU HGC
              go_wp2_with fail
              refine (S10 _).mono ?_
              rintro e w1 ⟨rfl, hb1⟩
              generalize mk (escB 10) = E at *
              have hB1 := Lsnoc hb hb1
              have hz1 := hB1.size
              have hown1 := hown.keepB hb1
              have own1 := hown1.alloc (.cells #[.int .u8 10] 5)
              clear hown hown1
              go_wp2_with (at_builtin; refine wpList_append_own _ rfl (.tmp 42) (.tmp 44) 37 rfl w.heap.size 5 i0 (.int .u8 0) 1 1 Tryd.underlying37 hi hz0' hz1' hz2 rfl (by decide) u4 t.length (cellsU t) rfl own1 ⟨w1.heap.size, 0, none⟩ 1 1 [.int .u8 10] rfl ?c1 ?c2 ?c3 ?c4 ?c5 ?c6 ?_)
              try (case c1 => simp)
              try (case c2 => exact cell_one_new _ _ _)
              case c3 => first | (intro u hu; simp at hu; subst hu; rfl) | rfl
              case c4 => unfold maxLen; omega
              case c5 => omega
              case c6 => first | (simp; omega) | omega
              intro v2 w2 hown2 hg2 hne2
              have hb2 : Below w.heap.size w w2 := (hB1.alloc hz1 _).grown hg2 (by simp; omega) (fun k hk => (own1.lt k hk).1)
              clear hg2 hne2 own1
              go_wp2_with fail
              go_roundw
              case rel => exact ⟨_, t ++ [10], rfl, HN, by rw [List.length_append, List.length_singleton]; omega, by rw [List.length_append, List.length_singleton]; exact (show cellsU (t ++ [10]) = cellsU t ++ [.int .u8 10] from by unfold cellsU; rw [List.map_append]; rfl) ▸ hown2, hb2⟩
              case measure => dsimp only; omega
            · have HN := Lib.hid (HPR.out hp)
              by_cases hsz : (mk (escB 10)).size ≤ r.size
              · have hq : ((r.extract 0 (mk (escB 10)).size).toList != (mk (escB 10)).toList) = true := by rw [bne, str_ne (not_pre hp)]; rfl
                have hq3 : ((r.extract 0 (mk (escB 10)).size).toList == (mk (escB 10)).toList) = false := str_ne (not_pre hp)
                have n1 : ¬ r.size < (mk (escB 10)).size := by omega
                have n2 : decide (r.size < (mk (escB 10)).size) = false := decide_eq_false n1
                have q0 : ((mk (escB 10)).size : Int) ≤ (r.size : Int) := by omega
                have q1 : ¬ ((r.size : Int) < ((mk (escB 10)).size : Int)) := by omega
                have q2 : decide ((r.size : Int) < ((mk (escB 10)).size : Int)) = false := decide_eq_false q1
                clear HPR hp HU HGC
                go_wp2_with fail
                refine (S10 _).mono ?_
                rintro e w1 ⟨rfl, hb1⟩
                generalize mk (escB 10) = E at *
                have hB1 := Lsnoc hb hb1
                have hz1 := hB1.size
                go_wp2_with fail
                go_ret2
                exact ⟨by rw [HN.out]; rfl, hB1⟩
              · have n1 : r.size < (mk (escB 10)).size := by omega
                have n2 : decide (r.size < (mk (escB 10)).size) = true := decide_eq_true n1
                have q1 : (r.size : Int) < ((mk (escB 10)).size : Int) := by omega
                have q2 : decide ((r.size : Int) < ((mk (escB 10)).size : Int)) = true := decide_eq_true q1
                clear HPR hp HU HGC
                go_wp2_with fail
                refine (S10 _).mono ?_
                rintro e w1 ⟨rfl, hb1⟩
                generalize mk (escB 10) = E at *
                have hB1 := Lsnoc hb hb1
                have hz1 := hB1.size
                go_wp2_with fail
                go_ret2
                exact ⟨by rw [HN.out]; rfl, hB1⟩
          by_cases d114 : r[1] = 114
          · have HGC : Hid (guess (bs r) = 13) := Lib.hid (by rw [HG, if_neg d116, if_neg d110, if_pos d114])
            obtain ⟨y116, z116⟩ := ne_int (n := 116) (by decide) d116
            obtain ⟨y110, z110⟩ := ne_int (n := 110) (by decide) d110
            have y114 : (r[1].toNat : Int) = 114 := by rw [d114]; rfl
            have z114 : ((r[1].toNat : Int) == 114) = true := by rw [y114]; rfl
            clear HG hc d114 d116 d110
            have HPR : Hid (¬ bs (mk (escB 13)) <+: bs r → unescO s = none) := Lib.hid (fun h => unescO_none HU.out hne (by rw [HGC.out]; exact h))
            have hcl := escB_len 13
            have hcp := escB_pos 13
            rw [← bs_mk (escB 13), ← size_bs] at hcl hcp
            by_cases hp : bs (mk (escB 13)) <+: bs r
            · obtain ⟨x1, x2, x3⟩ := pre_ext hp
              have HX := Lib.hid x2
              have HN : Hid (bs s = escL (t ++ [13]) ++ bs (r.extract (mk (escB 13)).size r.size)) := Lib.hid (by
                rw [HU.out]
                conv => lhs; rw [x3]
                unfold escL
                rw [List.flatMap_append, List.append_assoc]
                simp [bs_mk])
              have hxz : (r.extract (mk (escB 13)).size r.size).size = r.size - (mk (escB 13)).size := by rw [ByteArray.size_extract]; omega
              have hq : ((r.extract 0 (mk (escB 13)).size).toList != (mk (escB 13)).toList) = false := by rw [x2, bne, str_eq]; rfl
              have hq3 : ((r.extract 0 (mk (escB 13)).size).toList == (mk (escB 13)).toList) = true := by rw [x2]; exact str_eq _
              have n1 : ¬ r.size < (mk (escB 13)).size := by omega
              have n2 : decide (r.size < (mk (escB 13)).size) = false := decide_eq_false n1
              have q0 : ((mk (escB 13)).size : Int) ≤ (r.size : Int) := by omega
              have q1 : ¬ ((r.size : Int) < ((mk (escB 13)).size : Int)) := by omega
              have q2 : decide ((r.size : Int) < ((mk (escB 13)).size : Int)) = false := decide_eq_false q1
              clear HPR hp x2 x3 HU HGC
              go_wp2_with fail
              refine (S13 _).mono ?_
              rintro e w1 ⟨rfl, hb1⟩
              generalize mk (escB 13) = E at *
              have hB1 := Lsnoc hb hb1
              have hz1 := hB1.size
              have hown1 := hown.keepB hb1
              have own1 := hown1.alloc (.cells #[.int .u8 13] 5)
              clear hown hown1
              go_wp2_with (at_builtin; refine wpList_append_own _ rfl (.tmp 42) (.tmp 44) 37 rfl w.heap.size 5 i0 (.int .u8 0) 1 1 Tryd.underlying37 hi hz0' hz1' hz2 rfl (by decide) u4 t.length (cellsU t) rfl own1 ⟨w1.heap.size, 0, none⟩ 1 1 [.int .u8 13] rfl ?d1 ?d2 ?d3 ?d4 ?d5 ?d6 ?_)
              try (case d1 => simp)
              try (case d2 => exact cell_one_new _ _ _)
              case d3 => first | (intro u hu; simp at hu; subst hu; rfl) | rfl
              case d4 => unfold maxLen; omega
              case d5 => omega
              case d6 => first | (simp; omega) | omega
              intro v2 w2 hown2 hg2 hne2
              have hb2 : Below w.heap.size w w2 := (hB1.alloc hz1 _).grown hg2 (by simp; omega) (fun k hk => (own1.lt k hk).1)
              clear hg2 hne2 own1
              go_wp2_with fail
              go_roundw
              case rel => exact ⟨_, t ++ [13], rfl, HN, by rw [List.length_append, List.length_singleton]; omega, by rw [List.length_append, List.length_singleton]; exact (show cellsU (t ++ [13]) = cellsU t ++ [.int .u8 13] from by unfold cellsU; rw [List.map_append]; rfl) ▸ hown2, hb2⟩
              case measure => dsimp only; omega
            · have HN := Lib.hid (HPR.out hp)
              by_cases hsz : (mk (escB 13)).size ≤ r.size
              · have hq : ((r.extract 0 (mk (escB 13)).size).toList != (mk (escB 13)).toList) = true := by rw [bne, str_ne (not_pre hp)]; rfl
                have hq3 : ((r.extract 0 (mk (escB 13)).size).toList == (mk (escB 13)).toList) = false := str_ne (not_pre hp)
                have n1 : ¬ r.size < (mk (escB 13)).size := by omega
                have n2 : decide (r.size < (mk (escB 13)).size) = false := decide_eq_false n1
                have q0 : ((mk (escB 13)).size : Int) ≤ (r.size : Int) := by omega
                have q1 : ¬ ((r.size : Int) < ((mk (escB 13)).size : Int)) := by omega
                have q2 : decide ((r.size : Int) < ((mk (escB 13)).size : Int)) = false := decide_eq_false q1
                clear HPR hp HU HGC
                go_wp2_with fail
                refine (S13 _).mono ?_
                rintro e w1 ⟨rfl, hb1⟩
                generalize mk (escB 13) = E at *
                have hB1 := Lsnoc hb hb1
                have hz1 := hB1.size
                go_wp2_with fail
                go_ret2
                exact ⟨by rw [HN.out]; rfl, hB1⟩
              · have n1 : r.size < (mk (escB 13)).size := by omega
                have n2 : decide (r.size < (mk (escB 13)).size) = true := decide_eq_true n1
                have q1 : (r.size : Int) < ((mk (escB 13)).size : Int) := by omega
                have q2 : decide ((r.size : Int) < ((mk (escB 13)).size : Int)) = true := decide_eq_true q1
                clear HPR hp HU HGC
                go_wp2_with fail
                refine (S13 _).mono ?_
                rintro e w1 ⟨rfl, hb1⟩
                generalize mk (escB 13) = E at *
                have hB1 := Lsnoc hb hb1
                have hz1 := hB1.size
                go_wp2_with fail
                go_ret2
                exact ⟨by rw [HN.out]; rfl, hB1⟩
          have HGC : Hid (guess (bs r) = 92) := Lib.hid (by rw [HG, if_neg d116, if_neg d110, if_neg d114])
          obtain ⟨y116, z116⟩ := ne_int (n := 116) (by decide) d116
          obtain ⟨y110, z110⟩ := ne_int (n := 110) (by decide) d110
          obtain ⟨y114, z114⟩ := ne_int (n := 114) (by decide) d114
          clear HG hc d116 d110 d114
          have HPR : Hid (¬ bs (mk (escB 92)) <+: bs r → unescO s = none) := Lib.hid (fun h => unescO_none HU.out hne (by rw [HGC.out]; exact h))
          have hcl := escB_len 92
          have hcp := escB_pos 92
          rw [← bs_mk (escB 92), ← size_bs] at hcl hcp
          by_cases hp : bs (mk (escB 92)) <+: bs r
          · obtain ⟨x1, x2, x3⟩ := pre_ext hp
            have HX := Lib.hid x2
            have HN : Hid (bs s = escL (t ++ [92]) ++ bs (r.extract (mk (escB 92)).size r.size)) := Lib.hid (by
              rw [HU.out]
              conv => lhs; rw [x3]
              unfold escL
              rw [List.flatMap_append, List.append_assoc]
              simp [bs_mk])
            have hxz : (r.extract (mk (escB 92)).size r.size).size = r.size - (mk (escB 92)).size := by rw [ByteArray.size_extract]; omega
            have hq : ((r.extract 0 (mk (escB 92)).size).toList != (mk (escB 92)).toList) = false := by rw [x2, bne, str_eq]; rfl
            have hq3 : ((r.extract 0 (mk (escB 92)).size).toList == (mk (escB 92)).toList) = true := by rw [x2]; exact str_eq _
            have n1 : ¬ r.size < (mk (escB 92)).size := by omega
            have n2 : decide (r.size < (mk (escB 92)).size) = false := decide_eq_false n1
            have q0 : ((mk (escB 92)).size : Int) ≤ (r.size : Int) := by omega
            have q1 : ¬ ((r.size : Int) < ((mk (escB 92)).size : Int)) := by omega
            have q2 : decide ((r.size : Int) < ((mk (escB 92)).size : Int)) = false := decide_eq_false q1
            clear HPR hp x2 x3 HU HGC
            go_wp2_with fail
            refine (S92 _).mono ?_
            rintro e w1 ⟨rfl, hb1⟩
            generalize mk (escB 92) = E at *
            have hB1 := Lsnoc hb hb1
            have hz1 := hB1.size
            have hown1 := hown.keepB hb1
            have own1 := hown1.alloc (.cells #[.int .u8 92] 5)
            clear hown hown1
            go_wp2_with (at_builtin; refine wpList_append_own _ rfl (.tmp 42) (.tmp 44) 37 rfl w.heap.size 5 i0 (.int .u8 0) 1 1 Tryd.underlying37 hi hz0' hz1' hz2 rfl (by decide) u4 t.length (cellsU t) rfl own1 ⟨w1.heap.size, 0, none⟩ 1 1 [.int .u8 92] rfl ?e1 ?e2 ?e3 ?e4 ?e5 ?e6 ?_)
            try (case e1 => simp)
            try (case e2 => exact cell_one_new _ _ _)
            case e3 => first | (intro u hu; simp at hu; subst hu; rfl) | rfl
            case e4 => unfold maxLen; omega
            case e5 => omega
            case e6 => first | (simp; omega) | omega
            intro v2 w2 hown2 hg2 hne2
            have hb2 : Below w.heap.size w w2 := (hB1.alloc hz1 _).grown hg2 (by simp; omega) (fun k hk => (own1.lt k hk).1)
            clear hg2 hne2 own1
            go_wp2_with fail
            go_roundw
            case rel => exact ⟨_, t ++ [92], rfl, HN, by rw [List.length_append, List.length_singleton]; omega, by rw [List.length_append, List.length_singleton]; exact (show cellsU (t ++ [92]) = cellsU t ++ [.int .u8 92] from by unfold cellsU; rw [List.map_append]; rfl) ▸ hown2, hb2⟩
            case measure => dsimp only; omega
          · have HN := Lib.hid (HPR.out hp)
            by_cases hsz : (mk (escB 92)).size ≤ r.size
            · have hq : ((r.extract 0 (mk (escB 92)).size).toList != (mk (escB 92)).toList) = true := by rw [bne, str_ne (not_pre hp)]; rfl
              have hq3 : ((r.extract 0 (mk (escB 92)).size).toList == (mk (escB 92)).toList) = false := str_ne (not_pre hp)
              have n1 : ¬ r.size < (mk (escB 92)).size := by omega
              have n2 : decide (r.size < (mk (escB 92)).size) = false := decide_eq_false n1
              have q0 : ((mk (escB 92)).size : Int) ≤ (r.size : Int) := by omega
              have q1 : ¬ ((r.size : Int) < ((mk (escB 92)).size : Int)) := by omega
              have q2 : decide ((r.size : Int) < ((mk (escB 92)).size : Int)) = false := decide_eq_false q1
              clear HPR hp HU HGC
              go_wp2_with fail
              refine (S92 _).mono ?_
              rintro e w1 ⟨rfl, hb1⟩
              generalize mk (escB 92) = E at *
              have hB1 := Lsnoc hb hb1
              have hz1 := hB1.size
              go_wp2_with fail
              go_ret2
              exact ⟨by rw [HN.out]; rfl, hB1⟩
            · exfalso; have hh : (mk (escB 92)).size = 2 := rfl; omega
        · have l1 : ¬ (1 : Int) < (r.size : Int) := by omega
          have l2 : decide ((1 : Int) < (r.size : Int)) = false := decide_eq_false l1
          have HGC : Hid (guess (bs r) = 92) := Lib.hid (by rw [HG, dif_neg h1, hc])
          clear HG hc
          have HPR : Hid (¬ bs (mk (escB 92)) <+: bs r → unescO s = none) := Lib.hid (fun h => unescO_none HU.out hne (by rw [HGC.out]; exact h))
          have hcl := escB_len 92
          have hcp := escB_pos 92
          rw [← bs_mk (escB 92), ← size_bs] at hcl hcp
          by_cases hp : bs (mk (escB 92)) <+: bs r
          · obtain ⟨x1, x2, x3⟩ := pre_ext hp
            have HX := Lib.hid x2
            have HN : Hid (bs s = escL (t ++ [92]) ++ bs (r.extract (mk (escB 92)).size r.size)) := Lib.hid (by
              rw [HU.out]
              conv => lhs; rw [x3]
              unfold escL
              rw [List.flatMap_append, List.append_assoc]
              simp [bs_mk])
            have hxz : (r.extract (mk (escB 92)).size r.size).size = r.size - (mk (escB 92)).size := by rw [ByteArray.size_extract]; omega
            have hq : ((r.extract 0 (mk (escB 92)).size).toList != (mk (escB 92)).toList) = false := by rw [x2, bne, str_eq]; rfl
            have hq3 : ((r.extract 0 (mk (escB 92)).size).toList == (mk (escB 92)).toList) = true := by rw [x2]; exact str_eq _
            have n1 : ¬ r.size < (mk (escB 92)).size := by omega
            have n2 : decide (r.size < (mk (escB 92)).size) = false := decide_eq_false n1
            have q0 : ((mk (escB 92)).size : Int) ≤ (r.size : Int) := by omega
            have q1 : ¬ ((r.size : Int) < ((mk (escB 92)).size : Int)) := by omega
            have q2 : decide ((r.size : Int) < ((mk (escB 92)).size : Int)) = false := decide_eq_false q1
            clear HPR hp x2 x3 HU HGC
            go_wp2_with fail
            refine (S92 _).mono ?_
            rintro e w1 ⟨rfl, hb1⟩
            generalize mk (escB 92) = E at *
            have hB1 := Lsnoc hb hb1
            have hz1 := hB1.size
            have hown1 := hown.keepB hb1
            have own1 := hown1.alloc (.cells #[.int .u8 92] 5)
            clear hown hown1
            go_wp2_with (at_builtin; refine wpList_append_own _ rfl (.tmp 42) (.tmp 44) 37 rfl w.heap.size 5 i0 (.int .u8 0) 1 1 Tryd.underlying37 hi hz0' hz1' hz2 rfl (by decide) u4 t.length (cellsU t) rfl own1 ⟨w1.heap.size, 0, none⟩ 1 1 [.int .u8 92] rfl ?f1 ?f2 ?f3 ?f4 ?f5 ?f6 ?_)
            try (case f1 => simp)
            try (case f2 => exact cell_one_new _ _ _)
            case f3 => first | (intro u hu; simp at hu; subst hu; rfl) | rfl
            case f4 => unfold maxLen; omega
            case f5 => omega
            case f6 => first | (simp; omega) | omega
            intro v2 w2 hown2 hg2 hne2
            have hb2 : Below w.heap.size w w2 := (hB1.alloc hz1 _).grown hg2 (by simp; omega) (fun k hk => (own1.lt k hk).1)
            clear hg2 hne2 own1
            go_wp2_with fail
            go_roundw
            case rel => exact ⟨_, t ++ [92], rfl, HN, by rw [List.length_append, List.length_singleton]; omega, by rw [List.length_append, List.length_singleton]; exact (show cellsU (t ++ [92]) = cellsU t ++ [.int .u8 92] from by unfold cellsU; rw [List.map_append]; rfl) ▸ hown2, hb2⟩
            case measure => dsimp only; omega
          · have HN := Lib.hid (HPR.out hp)
            by_cases hsz : (mk (escB 92)).size ≤ r.size
            · have hq : ((r.extract 0 (mk (escB 92)).size).toList != (mk (escB 92)).toList) = true := by rw [bne, str_ne (not_pre hp)]; rfl
              have hq3 : ((r.extract 0 (mk (escB 92)).size).toList == (mk (escB 92)).toList) = false := str_ne (not_pre hp)
              have n1 : ¬ r.size < (mk (escB 92)).size := by omega
              have n2 : decide (r.size < (mk (escB 92)).size) = false := decide_eq_false n1
              have q0 : ((mk (escB 92)).size : Int) ≤ (r.size : Int) := by omega
              have q1 : ¬ ((r.size : Int) < ((mk (escB 92)).size : Int)) := by omega
              have q2 : decide ((r.size : Int) < ((mk (escB 92)).size : Int)) = false := decide_eq_false q1
              clear HPR hp HU HGC
              go_wp2_with fail
              refine (S92 _).mono ?_
              rintro e w1 ⟨rfl, hb1⟩
              generalize mk (escB 92) = E at *
              have hB1 := Lsnoc hb hb1
              have hz1 := hB1.size
              go_wp2_with fail
              go_ret2
              exact ⟨by rw [HN.out]; rfl, hB1⟩
            · have n1 : r.size < (mk (escB 92)).size := by omega
              have n2 : decide (r.size < (mk (escB 92)).size) = true := decide_eq_true n1
              have q1 : (r.size : Int) < ((mk (escB 92)).size : Int) := by omega
              have q2 : decide ((r.size : Int) < ((mk (escB 92)).size : Int)) = true := decide_eq_true q1
              clear HPR hp HU HGC
              go_wp2_with fail
              refine (S92 _).mono ?_
              rintro e w1 ⟨rfl, hb1⟩
              generalize mk (escB 92) = E at *
              have hB1 := Lsnoc hb hb1
              have hz1 := hB1.size
              go_wp2_with fail
              go_ret2
              exact ⟨by rw [HN.out]; rfl, hB1⟩
      · obtain ⟨e2, e1⟩ := ne_int (n := 92) (by decide) hc
        have HGC : Hid (guess (bs r) = r[0]) := Lib.hid (by rw [HG]; split <;> first | exact if_neg hc | rfl)
        clear HG hc
        have HPR : Hid (¬ bs (mk (escB r[0])) <+: bs r → unescO s = none) := Lib.hid (fun h => unescO_none HU.out hne (by rw [HGC.out]; exact h))
        have hcl := escB_len r[0]
        have hcp := escB_pos r[0]
        rw [← bs_mk (escB r[0]), ← size_bs] at hcl hcp
        by_cases hp : bs (mk (escB r[0])) <+: bs r
        · obtain ⟨x1, x2, x3⟩ := pre_ext hp
          have HX := Lib.hid x2
          have HN : Hid (bs s = escL (t ++ [r[0]]) ++ bs (r.extract (mk (escB r[0])).size r.size)) := Lib.hid (by
            rw [HU.out]
            conv => lhs; rw [x3]
            unfold escL
            rw [List.flatMap_append, List.append_assoc]
            simp [bs_mk])
          have hxz : (r.extract (mk (escB r[0])).size r.size).size = r.size - (mk (escB r[0])).size := by rw [ByteArray.size_extract]; omega
          have hq : ((r.extract 0 (mk (escB r[0])).size).toList != (mk (escB r[0])).toList) = false := by rw [x2, bne, str_eq]; rfl
          have hq3 : ((r.extract 0 (mk (escB r[0])).size).toList == (mk (escB r[0])).toList) = true := by rw [x2]; exact str_eq _
          have n1 : ¬ r.size < (mk (escB r[0])).size := by omega
          have n2 : decide (r.size < (mk (escB r[0])).size) = false := decide_eq_false n1
          have q0 : ((mk (escB r[0])).size : Int) ≤ (r.size : Int) := by omega
          have q1 : ¬ ((r.size : Int) < ((mk (escB r[0])).size : Int)) := by omega
          have q2 : decide ((r.size : Int) < ((mk (escB r[0])).size : Int)) = false := decide_eq_false q1
          clear HPR hp x2 x3 HU HGC
          go_wp2_with fail
          refine (resc1_any r[0] _).mono ?_
          rintro e w1 ⟨rfl, hb1⟩
          generalize mk (escB r[0]) = E at *
          have hB1 := Lsnoc hb hb1
          have hz1 := hB1.size
          have hown1 := hown.keepB hb1
          have own1 := hown1.alloc (.cells #[.int .u8 (r[0].toNat : Int)] 5)
          clear hown hown1
          go_wp2_with (at_builtin; refine wpList_append_own _ rfl (.tmp 42) (.tmp 44) 37 rfl w.heap.size 5 i0 (.int .u8 0) 1 1 Tryd.underlying37 hi hz0' hz1' hz2 rfl (by decide) u4 t.length (cellsU t) rfl own1 ⟨w1.heap.size, 0, none⟩ 1 1 [.int .u8 (r[0].toNat : Int)] rfl ?g1 ?g2 ?g3 ?g4 ?g5 ?g6 ?_)
          try (case g1 => simp)
          try (case g2 => exact cell_one_new _ _ _)
          case g3 => first | (intro u hu; simp at hu; subst hu; rfl) | rfl
          case g4 => unfold maxLen; omega
          case g5 => omega
          case g6 => first | (simp; omega) | omega
          intro v2 w2 hown2 hg2 hne2
          have hb2 : Below w.heap.size w w2 := (hB1.alloc hz1 _).grown hg2 (by simp; omega) (fun k hk => (own1.lt k hk).1)
          clear hg2 hne2 own1
          go_wp2_with fail
          go_roundw
          case rel => exact ⟨_, t ++ [r[0]], rfl, HN, by rw [List.length_append, List.length_singleton]; omega, by rw [List.length_append, List.length_singleton]; exact (show cellsU (t ++ [r[0]]) = cellsU t ++ [.int .u8 (r[0].toNat : Int)] from by unfold cellsU; rw [List.map_append]; rfl) ▸ hown2, hb2⟩
          case measure => dsimp only; omega
        · have HN := Lib.hid (HPR.out hp)
          by_cases hsz : (mk (escB r[0])).size ≤ r.size
          · have hq : ((r.extract 0 (mk (escB r[0])).size).toList != (mk (escB r[0])).toList) = true := by rw [bne, str_ne (not_pre hp)]; rfl
            have hq3 : ((r.extract 0 (mk (escB r[0])).size).toList == (mk (escB r[0])).toList) = false := str_ne (not_pre hp)
            have n1 : ¬ r.size < (mk (escB r[0])).size := by omega
            have n2 : decide (r.size < (mk (escB r[0])).size) = false := decide_eq_false n1
            have q0 : ((mk (escB r[0])).size : Int) ≤ (r.size : Int) := by omega
            have q1 : ¬ ((r.size : Int) < ((mk (escB r[0])).size : Int)) := by omega
            have q2 : decide ((r.size : Int) < ((mk (escB r[0])).size : Int)) = false := decide_eq_false q1
            clear HPR hp HU HGC
            go_wp2_with fail
            refine (resc1_any r[0] _).mono ?_
            rintro e w1 ⟨rfl, hb1⟩
            generalize mk (escB r[0]) = E at *
            have hB1 := Lsnoc hb hb1
            have hz1 := hB1.size
            go_wp2_with fail
            go_ret2
            exact ⟨by rw [HN.out]; rfl, hB1⟩
          · have n1 : r.size < (mk (escB r[0])).size := by omega
            have n2 : decide (r.size < (mk (escB r[0])).size) = true := decide_eq_true n1
            have q1 : (r.size : Int) < ((mk (escB r[0])).size : Int) := by omega
            have q2 : decide ((r.size : Int) < ((mk (escB r[0])).size : Int)) = true := decide_eq_true q1
            clear HPR hp HU HGC
            go_wp2_with fail
            refine (resc1_any r[0] _).mono ?_
            rintro e w1 ⟨rfl, hb1⟩
            generalize mk (escB r[0]) = E at *
            have hB1 := Lsnoc hb hb1
            have hz1 := hB1.size
            go_wp2_with fail
            go_ret2
            exact ⟨by rw [HN.out]; rfl, hB1⟩
end Go.Proofs.YtmcjabmkacfilaaDoor
