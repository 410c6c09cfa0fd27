/- The contract of lines.Unescape. -/
import Derived.Test.YtmcjabmkacfilaaDoorLinK
import Derived.Deep.AppendSrc
import Derived.OwnWalk
namespace Go.Proofs.YtmcjabmkacfilaaDoor
open Go.RowKit Go.Shelf

theorem drop_at (s : ByteArray) (k : Nat) (hk : k < s.size) : (bs s).drop k = s[k] :: (bs s).drop (k + 1) := by
  have hk' : k < (bs s).length := by rw [← size_bs]; exact hk
  rw [List.drop_eq_getElem_cons hk']
  rfl
theorem drop_end (s : ByteArray) (k : Nat) (hk : s.size ≤ k) : (bs s).drop k = [] := List.drop_eq_nil_of_le (by rw [← size_bs]; exact hk)
/-- What a byte behind a backslash stands for. -/
def letter (d : UInt8) : Option UInt8 := if d = 92 then some 92 else if d = 116 then some 9 else if d = 110 then some 10 else if d = 114 then some 13 else none
def unescA : List UInt8 → Option (List UInt8)
  | [] => some []
  | c :: l => if c = 92 then match l with
      | [] => none
      | d :: l' => match letter d with
        | none => none
        | some x => (unescA l').map (x :: ·)
    else (unescA l).map (c :: ·)
def unescO (s : ByteArray) : Option ByteArray := match unescA (bs s) with
  | none => none
  | some t => if escS (mk t) = s then some (mk t) else none
theorem unescA_plain {c : UInt8} {l : List UInt8} (h : c ≠ 92) : unescA (c :: l) = (unescA l).map (c :: ·) := by
  conv => lhs; unfold unescA
  exact if_neg h
theorem unescA_end : unescA [92] = none := by unfold unescA; rfl
theorem unescA_two {d : UInt8} {l : List UInt8} : unescA (92 :: d :: l) = match letter d with | none => none | some x => (unescA l).map (x :: ·) := by
  conv => lhs; unfold unescA
  rfl
/-- How far the text has been read, what has come of it. -/
def UA (s : ByteArray) (t : List UInt8) (k : Nat) : Prop := unescA (bs s) = (unescA ((bs s).drop k)).map (t ++ ·)
theorem UA.start (s : ByteArray) : UA s [] 0 := by unfold UA; rw [List.drop_zero]; cases unescA (bs s) <;> simp
theorem opt_step {o : Option (List UInt8)} {t : List UInt8} {x : UInt8} : (o.map (x :: ·)).map (t ++ ·) = o.map ((t ++ [x]) ++ ·) := by cases o <;> simp
theorem UA.plain {s : ByteArray} {t : List UInt8} {k : Nat} (h : UA s t k) (hk : k < s.size) (hc : s[k] ≠ 92) : UA s (t ++ [s[k]]) (k + 1) := by
  unfold UA at *
  rw [h, drop_at s k hk, unescA_plain hc, opt_step]
theorem UA.two {s : ByteArray} {t : List UInt8} {k : Nat} {x : UInt8} (h : UA s t k) (hk : k + 1 < s.size) (hc : s[k] = 92) (hd : letter s[k + 1] = some x) : UA s (t ++ [x]) (k + 2) := by
  unfold UA at *
  rw [h, drop_at s k (by omega), drop_at s (k + 1) hk, hc, unescA_two, hd, opt_step]
theorem UA.bad {s : ByteArray} {t : List UInt8} {k : Nat} (h : UA s t k) (hk : k + 1 < s.size) (hc : s[k] = 92) (hd : letter s[k + 1] = none) : unescO s = none := by
  unfold UA at h
  unfold unescO
  rw [h, drop_at s k (by omega), drop_at s (k + 1) hk, hc, unescA_two, hd]
  rfl
theorem UA.last {s : ByteArray} {t : List UInt8} {k : Nat} (h : UA s t k) (hk : k < s.size) (hk2 : s.size ≤ k + 1) (hc : s[k] = 92) : unescO s = none := by
  unfold UA at h
  unfold unescO
  rw [h, drop_at s k hk, drop_end s (k + 1) hk2, hc, unescA_end]
  rfl
theorem UA.done {s : ByteArray} {t : List UInt8} {k : Nat} (h : UA s t k) (hk : s.size ≤ k) : unescO s = if escS (mk t) = s then some (mk t) else none := by
  unfold UA at h
  rw [drop_end s k hk] at h
  unfold unescO
  rw [h]
  simp [unescA]
theorem conv_nil (w : World) : (convert 37 9 (.slice none 0 0)).run Tryd.prog w = .ok (.string (mk [])) w := by kernel_rfl
theorem conv_own {w : World} {B : Nat} {v : Value} {l : List UInt8} (h : w.ownsRow B 5 1 v l.length (cellsU l)) : (convert 37 9 v).run Tryd.prog w = .ok (.string (mk l)) w := by
  obtain ⟨h1, ⟨rfl, h2⟩ | ⟨g, cap, cur, rfl, hb, hh, hn, hm, hs, ht⟩⟩ := h
  · have : l = [] := List.length_eq_zero_iff.1 h2
    subst this
    exact conv_nil w
  · refine run_convert_bytes_back w 37 9 5 ⟨g, 0, none⟩ cap l Tryd.underlying37 Tryd.underlying5 Tryd.underlying9 (fun j hj => ?_)
    rw [Addr.add_at, Nat.zero_add]
    have h3 : (cur.toList.take (l.length * 1))[j]? = (cellsU l)[j]? := by rw [ht]
    rw [Nat.mul_one, List.getElem?_take_of_lt hj] at h3
    simp only [World.cell?, hh]
    simp [cellsU, hj] at h3 ⊢
    rw [h3]
theorem str_ne {a b : ByteArray} (h : a ≠ b) : (a.toList == b.toList) = false := beq_eq_false_iff_ne.2 (fun e => h (bs_inj (by rw [toLs, toLs] at e; exact e)))
theorem str_eq (a : ByteArray) : (a.toList == a.toList) = true := beq_self_eq_true _
end Go.Proofs.YtmcjabmkacfilaaDoor
