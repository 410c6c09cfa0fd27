/- Contract of header.Right. (printed by wip/genhdrf.py) -/
import Derived.Test.YtngamlikhgilhaaDoorHdrE
namespace Go.Proofs.YtngamlikhgilhaaDoor
open Go.RowKit

def domB (d : ByteArray) : Bool := decide (d = ⟨#[]⟩ ∨ canonS d = some d)
def wayB (p : ByteArray) : Bool := decide (p = ⟨#[]⟩ ∨ pathB p = true)
def numB (ex st : Int) : Bool := decide (0 ≤ ex) && decide (ex ≤ 253402300799) && decide (0 ≤ st) && decide (st ≤ 3)
/-- Which headers may be written. -/
def rightB (h : Hd) : Bool := domB h.dm && wayB h.pt && tokB h.nm && allB octB h.vl && numB h.ex h.st
theorem dom_yes {d : ByteArray} (h : canonS d = some d) : domB d = true := decide_eq_true (Or.inr h)
theorem dom_no {d : ByteArray} (h0 : d ≠ ⟨#[]⟩) (h : canonS d ≠ some d) : domB d = false := decide_eq_false (fun h9 => h9.elim h0 h)
theorem way_yes {d : ByteArray} (h : pathB d = true) : wayB d = true := decide_eq_true (Or.inr h)
theorem way_no {d : ByteArray} (h0 : d ≠ ⟨#[]⟩) (h : pathB d = false) : wayB d = false := decide_eq_false (fun h9 => h9.elim h0 (fun h1 => by rw [h] at h1; cases h1))
theorem nul_dom : domB ⟨#[]⟩ = true := decide_eq_true (Or.inl rfl)
theorem nul_way : wayB ⟨#[]⟩ = true := decide_eq_true (Or.inl rfl)
theorem strs_ne {a b : ByteArray} (h : a ≠ b) : (a.toList == b.toList) = false := beq_eq_false_iff_ne.2 (fun e => h (bs_inj (by rw [← toLh, ← toLh, e])))
theorem str_eq0 {a : ByteArray} (h : a = ⟨#[]⟩) : (a.toList == []) = true := by rw [h, toLh]; rfl
theorem numB_last {ex st : Int} (h1 : 0 ≤ ex) (h2 : ex ≤ 253402300799) (h3 : 0 ≤ st) : decide (st ≤ 3) = numB ex st := by unfold numB; rw [decide_eq_true h1, decide_eq_true h2, decide_eq_true h3]; simp
theorem numB_no {ex st : Int} (h : ex < 0 ∨ 253402300799 < ex ∨ st < 0) : numB ex st = false := by
  unfold numB
  rcases h with h | h | h
  · rw [decide_eq_false (by omega : ¬ 0 ≤ ex)]; rfl
  · rw [decide_eq_false (by omega : ¬ ex ≤ 253402300799)]; simp
  · rw [decide_eq_false (by omega : ¬ 0 ≤ st)]; simp
/-- A header in a block of its own. -/
structure BS (w W : World) (h : Hd) : Prop where
  rd : W.rangeAt w.heap.size 0 (hdL h)
  bel : Below w.heap.size w W
  sz : w.heap.size + 1 ≤ W.heap.size
theorem BS.keep {w W W' : World} {h : Hd} (H : BS w W h) (hb : Below (w.heap.size + 1) W W') : BS w W' h := ⟨hrange_keep H.rd hb (by omega), H.bel.trans (hb.mono (by omega)), Nat.le_trans H.sz hb.size⟩
theorem BS.new (w : World) (h : Hd) (t : TypeId) : BS w (w.alloc (.cells (hdL h).toArray t)) h := ⟨hrange_new w (hdL h) t, (Below.refl w.heap.size w).alloc (Nat.le_refl _) _, by rw [World.size_alloc]; exact Nat.le_refl _⟩
theorem BS.cells {w W : World} {h : Hd} (H : BS w W h) : W.cell? ⟨w.heap.size, 0, none⟩ = some (.string h.nm) ∧ W.cell? ⟨w.heap.size, 1, none⟩ = some (.string h.vl) ∧ W.cell? ⟨w.heap.size, 2, none⟩ = some (.string h.dm) ∧ W.cell? ⟨w.heap.size, 3, none⟩ = some (.string h.pt) ∧
   W.cell? ⟨w.heap.size, 4, none⟩ = some (.int .i64 h.ex) ∧ W.cell? ⟨w.heap.size, 5, none⟩ = some (.bool h.se) ∧ W.cell? ⟨w.heap.size, 6, none⟩ = some (.bool h.ho) ∧ W.cell? ⟨w.heap.size, 7, none⟩ = some (.int .i64 h.st) :=
  ⟨H.rd 0 _ rfl, H.rd 1 _ rfl, H.rd 2 _ rfl, H.rd 3 _ rfl, H.rd 4 _ rfl, H.rd 5 _ rfl, H.rd 6 _ rfl, H.rd 7 _ rfl⟩
theorem max_alloc {w : World} (h : HasMax w) (o : Obj) : HasMax (w.alloc o) := max_keep h ((Below.refl w.heap.size w).alloc (Nat.le_refl _) o)
def RGT (h : Hd) (w : World) (e : Ending) (w' : World) : Prop := e = .returned (.bool (rightB h)) ∧ Below w.heap.size w w'
set_option maxRecDepth 100000 in
theorem right_APTO (nm vl dm pt : ByteArray) (ex : Int) (se ho : Bool) (st : Int) (w : World) (hn' : nm.size ≤ 9223372036854775807) (hv' : vl.size ≤ 9223372036854775807) (hd' : dm.size ≤ 9223372036854775806) (_hp' : pt.size ≤ 9223372036854775807) (hm : HasMax w) (hd : dm = ⟨#[]⟩) (hp : pt = ⟨#[]⟩) (ht : tokB nm = true) (hoc : allB octB vl = true) :
    Calls Tryd.prog 19 #[.agg #[.string nm, .string vl, .string dm, .string pt, .int .i64 ex, .bool se, .bool ho, .int .i64 st]] w (RGT ⟨nm, vl, dm, pt, ex, se, ho, st⟩ w) := by
    have HM := Lib.hid hm
    clear hm
    have HR := Lib.hid (show rightB ⟨nm, vl, dm, pt, ex, se, ho, st⟩ = numB ex st by unfold rightB; rw [show domB dm = true by rw [hd]; exact nul_dom, show wayB pt = true by rw [hp]; exact nul_way, ht, hoc]; rfl)
    have qd : (dm.toList == []) = true := str_eq0 hd
    clear hd
    obtain ⟨cx, cb, hcv⟩ : ∃ cx cb, canonV (canonS dm) = .tuple #[.string cx, .bool cb] := ⟨_, _, rfl⟩
    have HV := Lib.hid hcv
    clear hcv
    have qp : (pt.toList == []) = true := str_eq0 hp
    clear hp
    have HT := Lib.hid ht
    clear ht
    have HO := Lib.hid hoc
    clear hoc
    go_enter Tryd.func19, Tryd.ntmps19
    go_wp2_with fail
    refine (canon_any dm _ hd' (max_alloc HM.out _)).mono ?_
    rintro e w1 ⟨rfl, hb1⟩
    rw [HV.out]
    have B1 := Lib.hid ((BS.new w ⟨nm, vl, dm, pt, ex, se, ho, st⟩ 23).keep (hb1.mono (by rw [World.size_alloc]; exact Nat.le_refl _)))
    clear hb1
    obtain ⟨c0, c1, c2, c3, c4, c5, c6, c7⟩ := B1.out.cells
    dsimp only at c0 c1 c2 c3 c4 c5 c6 c7
    go_wp2_with (first | (go_at_call 45; refine (pright_any pt _ hp').mono ?_; rintro e w2 ⟨rfl, rfl⟩; rw [HP.out]) | (go_at_call 46; refine (token_any nm _ hn').mono ?_; rintro e w2 ⟨rfl, rfl⟩; rw [HT.out]) | (go_at_call 47; refine (octets_any vl _ hv').mono ?_; rintro e w2 ⟨rfl, rfl⟩; rw [HO.out]))
    · go_ret
      exact ⟨by rw [HR.out]; exact congrArg (fun b => Ending.returned (Value.bool b)) (numB_last ‹_› ‹_› ‹_›), B1.out.bel⟩
    all_goals
      go_ret
      exact ⟨by rw [HR.out, numB_no (by omega)]; rfl, B1.out.bel⟩
set_option maxRecDepth 100000 in
theorem right_APTo (nm vl dm pt : ByteArray) (ex : Int) (se ho : Bool) (st : Int) (w : World) (hn' : nm.size ≤ 9223372036854775807) (hv' : vl.size ≤ 9223372036854775807) (hd' : dm.size ≤ 9223372036854775806) (_hp' : pt.size ≤ 9223372036854775807) (hm : HasMax w) (hd : dm = ⟨#[]⟩) (hp : pt = ⟨#[]⟩) (ht : tokB nm = true) (hoc : allB octB vl = false) :
    Calls Tryd.prog 19 #[.agg #[.string nm, .string vl, .string dm, .string pt, .int .i64 ex, .bool se, .bool ho, .int .i64 st]] w (RGT ⟨nm, vl, dm, pt, ex, se, ho, st⟩ w) := by
    have HM := Lib.hid hm
    clear hm
    have HR := Lib.hid (show rightB ⟨nm, vl, dm, pt, ex, se, ho, st⟩ = false by unfold rightB; rw [show domB dm = true by rw [hd]; exact nul_dom, show wayB pt = true by rw [hp]; exact nul_way, ht, hoc]; simp)
    have qd : (dm.toList == []) = true := str_eq0 hd
    clear hd
    obtain ⟨cx, cb, hcv⟩ : ∃ cx cb, canonV (canonS dm) = .tuple #[.string cx, .bool cb] := ⟨_, _, rfl⟩
    have HV := Lib.hid hcv
    clear hcv
    have qp : (pt.toList == []) = true := str_eq0 hp
    clear hp
    have HT := Lib.hid ht
    clear ht
    have HO := Lib.hid hoc
    clear hoc
    go_enter Tryd.func19, Tryd.ntmps19
    go_wp2_with fail
    refine (canon_any dm _ hd' (max_alloc HM.out _)).mono ?_
    rintro e w1 ⟨rfl, hb1⟩
    rw [HV.out]
    have B1 := Lib.hid ((BS.new w ⟨nm, vl, dm, pt, ex, se, ho, st⟩ 23).keep (hb1.mono (by rw [World.size_alloc]; exact Nat.le_refl _)))
    clear hb1
    obtain ⟨c0, c1, c2, c3, c4, c5, c6, c7⟩ := B1.out.cells
    dsimp only at c0 c1 c2 c3 c4 c5 c6 c7
    go_wp2_with (first | (go_at_call 45; refine (pright_any pt _ hp').mono ?_; rintro e w2 ⟨rfl, rfl⟩; rw [HP.out]) | (go_at_call 46; refine (token_any nm _ hn').mono ?_; rintro e w2 ⟨rfl, rfl⟩; rw [HT.out]) | (go_at_call 47; refine (octets_any vl _ hv').mono ?_; rintro e w2 ⟨rfl, rfl⟩; rw [HO.out]))
    go_ret
    exact ⟨by rw [HR.out]; rfl, B1.out.bel⟩
set_option maxRecDepth 100000 in
theorem right_APt (nm vl dm pt : ByteArray) (ex : Int) (se ho : Bool) (st : Int) (w : World) (hn' : nm.size ≤ 9223372036854775807) (_hv' : vl.size ≤ 9223372036854775807) (hd' : dm.size ≤ 9223372036854775806) (_hp' : pt.size ≤ 9223372036854775807) (hm : HasMax w) (hd : dm = ⟨#[]⟩) (hp : pt = ⟨#[]⟩) (ht : tokB nm = false) :
    Calls Tryd.prog 19 #[.agg #[.string nm, .string vl, .string dm, .string pt, .int .i64 ex, .bool se, .bool ho, .int .i64 st]] w (RGT ⟨nm, vl, dm, pt, ex, se, ho, st⟩ w) := by
    have HM := Lib.hid hm
    clear hm
    have HR := Lib.hid (show rightB ⟨nm, vl, dm, pt, ex, se, ho, st⟩ = false by unfold rightB; rw [show domB dm = true by rw [hd]; exact nul_dom, show wayB pt = true by rw [hp]; exact nul_way, ht]; simp)
    have qd : (dm.toList == []) = true := str_eq0 hd
    clear hd
    obtain ⟨cx, cb, hcv⟩ : ∃ cx cb, canonV (canonS dm) = .tuple #[.string cx, .bool cb] := ⟨_, _, rfl⟩
    have HV := Lib.hid hcv
    clear hcv
    have qp : (pt.toList == []) = true := str_eq0 hp
    clear hp
    have HT := Lib.hid ht
    clear ht
    go_enter Tryd.func19, Tryd.ntmps19
    go_wp2_with fail
    refine (canon_any dm _ hd' (max_alloc HM.out _)).mono ?_
    rintro e w1 ⟨rfl, hb1⟩
    rw [HV.out]
    have B1 := Lib.hid ((BS.new w ⟨nm, vl, dm, pt, ex, se, ho, st⟩ 23).keep (hb1.mono (by rw [World.size_alloc]; exact Nat.le_refl _)))
    clear hb1
    obtain ⟨c0, c1, c2, c3, c4, c5, c6, c7⟩ := B1.out.cells
    dsimp only at c0 c1 c2 c3 c4 c5 c6 c7
    go_wp2_with (first | (go_at_call 45; refine (pright_any pt _ hp').mono ?_; rintro e w2 ⟨rfl, rfl⟩; rw [HP.out]) | (go_at_call 46; refine (token_any nm _ hn').mono ?_; rintro e w2 ⟨rfl, rfl⟩; rw [HT.out]) | (go_at_call 47; refine (octets_any vl _ hv').mono ?_; rintro e w2 ⟨rfl, rfl⟩; rw [HO.out]))
    go_ret
    exact ⟨by rw [HR.out]; rfl, B1.out.bel⟩
set_option maxRecDepth 100000 in
theorem right_AQTO (nm vl dm pt : ByteArray) (ex : Int) (se ho : Bool) (st : Int) (w : World) (hn' : nm.size ≤ 9223372036854775807) (hv' : vl.size ≤ 9223372036854775807) (hd' : dm.size ≤ 9223372036854775806) (hp' : pt.size ≤ 9223372036854775807) (hm : HasMax w) (hd : dm = ⟨#[]⟩) (hp0 : pt ≠ ⟨#[]⟩) (hp : pathB pt = true) (ht : tokB nm = true) (hoc : allB octB vl = true) :
    Calls Tryd.prog 19 #[.agg #[.string nm, .string vl, .string dm, .string pt, .int .i64 ex, .bool se, .bool ho, .int .i64 st]] w (RGT ⟨nm, vl, dm, pt, ex, se, ho, st⟩ w) := by
    have HM := Lib.hid hm
    clear hm
    have HR := Lib.hid (show rightB ⟨nm, vl, dm, pt, ex, se, ho, st⟩ = numB ex st by unfold rightB; rw [show domB dm = true by rw [hd]; exact nul_dom, show wayB pt = true by exact way_yes hp, ht, hoc]; rfl)
    have qd : (dm.toList == []) = true := str_eq0 hd
    clear hd
    obtain ⟨cx, cb, hcv⟩ : ∃ cx cb, canonV (canonS dm) = .tuple #[.string cx, .bool cb] := ⟨_, _, rfl⟩
    have HV := Lib.hid hcv
    clear hcv
    have HP := Lib.hid hp
    have qp := str_ne0 hp0
    clear hp hp0
    have HT := Lib.hid ht
    clear ht
    have HO := Lib.hid hoc
    clear hoc
    go_enter Tryd.func19, Tryd.ntmps19
    go_wp2_with fail
    refine (canon_any dm _ hd' (max_alloc HM.out _)).mono ?_
    rintro e w1 ⟨rfl, hb1⟩
    rw [HV.out]
    have B1 := Lib.hid ((BS.new w ⟨nm, vl, dm, pt, ex, se, ho, st⟩ 23).keep (hb1.mono (by rw [World.size_alloc]; exact Nat.le_refl _)))
    clear hb1
    obtain ⟨c0, c1, c2, c3, c4, c5, c6, c7⟩ := B1.out.cells
    dsimp only at c0 c1 c2 c3 c4 c5 c6 c7
    go_wp2_with (first | (go_at_call 45; refine (pright_any pt _ hp').mono ?_; rintro e w2 ⟨rfl, rfl⟩; rw [HP.out]) | (go_at_call 46; refine (token_any nm _ hn').mono ?_; rintro e w2 ⟨rfl, rfl⟩; rw [HT.out]) | (go_at_call 47; refine (octets_any vl _ hv').mono ?_; rintro e w2 ⟨rfl, rfl⟩; rw [HO.out]))
    · go_ret
      exact ⟨by rw [HR.out]; exact congrArg (fun b => Ending.returned (Value.bool b)) (numB_last ‹_› ‹_› ‹_›), B1.out.bel⟩
    all_goals
      go_ret
      exact ⟨by rw [HR.out, numB_no (by omega)]; rfl, B1.out.bel⟩
set_option maxRecDepth 100000 in
theorem right_AQTo (nm vl dm pt : ByteArray) (ex : Int) (se ho : Bool) (st : Int) (w : World) (hn' : nm.size ≤ 9223372036854775807) (hv' : vl.size ≤ 9223372036854775807) (hd' : dm.size ≤ 9223372036854775806) (hp' : pt.size ≤ 9223372036854775807) (hm : HasMax w) (hd : dm = ⟨#[]⟩) (hp0 : pt ≠ ⟨#[]⟩) (hp : pathB pt = true) (ht : tokB nm = true) (hoc : allB octB vl = false) :
    Calls Tryd.prog 19 #[.agg #[.string nm, .string vl, .string dm, .string pt, .int .i64 ex, .bool se, .bool ho, .int .i64 st]] w (RGT ⟨nm, vl, dm, pt, ex, se, ho, st⟩ w) := by
    have HM := Lib.hid hm
    clear hm
    have HR := Lib.hid (show rightB ⟨nm, vl, dm, pt, ex, se, ho, st⟩ = false by unfold rightB; rw [show domB dm = true by rw [hd]; exact nul_dom, show wayB pt = true by exact way_yes hp, ht, hoc]; simp)
    have qd : (dm.toList == []) = true := str_eq0 hd
    clear hd
    obtain ⟨cx, cb, hcv⟩ : ∃ cx cb, canonV (canonS dm) = .tuple #[.string cx, .bool cb] := ⟨_, _, rfl⟩
    have HV := Lib.hid hcv
    clear hcv
    have HP := Lib.hid hp
    have qp := str_ne0 hp0
    clear hp hp0
    have HT := Lib.hid ht
    clear ht
    have HO := Lib.hid hoc
    clear hoc
    go_enter Tryd.func19, Tryd.ntmps19
    go_wp2_with fail
    refine (canon_any dm _ hd' (max_alloc HM.out _)).mono ?_
    rintro e w1 ⟨rfl, hb1⟩
    rw [HV.out]
    have B1 := Lib.hid ((BS.new w ⟨nm, vl, dm, pt, ex, se, ho, st⟩ 23).keep (hb1.mono (by rw [World.size_alloc]; exact Nat.le_refl _)))
    clear hb1
    obtain ⟨c0, c1, c2, c3, c4, c5, c6, c7⟩ := B1.out.cells
    dsimp only at c0 c1 c2 c3 c4 c5 c6 c7
    go_wp2_with (first | (go_at_call 45; refine (pright_any pt _ hp').mono ?_; rintro e w2 ⟨rfl, rfl⟩; rw [HP.out]) | (go_at_call 46; refine (token_any nm _ hn').mono ?_; rintro e w2 ⟨rfl, rfl⟩; rw [HT.out]) | (go_at_call 47; refine (octets_any vl _ hv').mono ?_; rintro e w2 ⟨rfl, rfl⟩; rw [HO.out]))
    go_ret
    exact ⟨by rw [HR.out]; rfl, B1.out.bel⟩
set_option maxRecDepth 100000 in
theorem right_AQt (nm vl dm pt : ByteArray) (ex : Int) (se ho : Bool) (st : Int) (w : World) (hn' : nm.size ≤ 9223372036854775807) (_hv' : vl.size ≤ 9223372036854775807) (hd' : dm.size ≤ 9223372036854775806) (hp' : pt.size ≤ 9223372036854775807) (hm : HasMax w) (hd : dm = ⟨#[]⟩) (hp0 : pt ≠ ⟨#[]⟩) (hp : pathB pt = true) (ht : tokB nm = false) :
    Calls Tryd.prog 19 #[.agg #[.string nm, .string vl, .string dm, .string pt, .int .i64 ex, .bool se, .bool ho, .int .i64 st]] w (RGT ⟨nm, vl, dm, pt, ex, se, ho, st⟩ w) := by
    have HM := Lib.hid hm
    clear hm
    have HR := Lib.hid (show rightB ⟨nm, vl, dm, pt, ex, se, ho, st⟩ = false by unfold rightB; rw [show domB dm = true by rw [hd]; exact nul_dom, show wayB pt = true by exact way_yes hp, ht]; simp)
    have qd : (dm.toList == []) = true := str_eq0 hd
    clear hd
    obtain ⟨cx, cb, hcv⟩ : ∃ cx cb, canonV (canonS dm) = .tuple #[.string cx, .bool cb] := ⟨_, _, rfl⟩
    have HV := Lib.hid hcv
    clear hcv
    have HP := Lib.hid hp
    have qp := str_ne0 hp0
    clear hp hp0
    have HT := Lib.hid ht
    clear ht
    go_enter Tryd.func19, Tryd.ntmps19
    go_wp2_with fail
    refine (canon_any dm _ hd' (max_alloc HM.out _)).mono ?_
    rintro e w1 ⟨rfl, hb1⟩
    rw [HV.out]
    have B1 := Lib.hid ((BS.new w ⟨nm, vl, dm, pt, ex, se, ho, st⟩ 23).keep (hb1.mono (by rw [World.size_alloc]; exact Nat.le_refl _)))
    clear hb1
    obtain ⟨c0, c1, c2, c3, c4, c5, c6, c7⟩ := B1.out.cells
    dsimp only at c0 c1 c2 c3 c4 c5 c6 c7
    go_wp2_with (first | (go_at_call 45; refine (pright_any pt _ hp').mono ?_; rintro e w2 ⟨rfl, rfl⟩; rw [HP.out]) | (go_at_call 46; refine (token_any nm _ hn').mono ?_; rintro e w2 ⟨rfl, rfl⟩; rw [HT.out]) | (go_at_call 47; refine (octets_any vl _ hv').mono ?_; rintro e w2 ⟨rfl, rfl⟩; rw [HO.out]))
    go_ret
    exact ⟨by rw [HR.out]; rfl, B1.out.bel⟩
set_option maxRecDepth 100000 in
theorem right_AR (nm vl dm pt : ByteArray) (ex : Int) (se ho : Bool) (st : Int) (w : World) (_hn' : nm.size ≤ 9223372036854775807) (_hv' : vl.size ≤ 9223372036854775807) (hd' : dm.size ≤ 9223372036854775806) (hp' : pt.size ≤ 9223372036854775807) (hm : HasMax w) (hd : dm = ⟨#[]⟩) (hp0 : pt ≠ ⟨#[]⟩) (hp : pathB pt = false) :
    Calls Tryd.prog 19 #[.agg #[.string nm, .string vl, .string dm, .string pt, .int .i64 ex, .bool se, .bool ho, .int .i64 st]] w (RGT ⟨nm, vl, dm, pt, ex, se, ho, st⟩ w) := by
    have HM := Lib.hid hm
    clear hm
    have HR := Lib.hid (show rightB ⟨nm, vl, dm, pt, ex, se, ho, st⟩ = false by unfold rightB; rw [show domB dm = true by rw [hd]; exact nul_dom, way_no hp0 hp]; rfl)
    have qd : (dm.toList == []) = true := str_eq0 hd
    clear hd
    obtain ⟨cx, cb, hcv⟩ : ∃ cx cb, canonV (canonS dm) = .tuple #[.string cx, .bool cb] := ⟨_, _, rfl⟩
    have HV := Lib.hid hcv
    clear hcv
    have HP := Lib.hid hp
    have qp := str_ne0 hp0
    clear hp hp0
    go_enter Tryd.func19, Tryd.ntmps19
    go_wp2_with fail
    refine (canon_any dm _ hd' (max_alloc HM.out _)).mono ?_
    rintro e w1 ⟨rfl, hb1⟩
    rw [HV.out]
    have B1 := Lib.hid ((BS.new w ⟨nm, vl, dm, pt, ex, se, ho, st⟩ 23).keep (hb1.mono (by rw [World.size_alloc]; exact Nat.le_refl _)))
    clear hb1
    obtain ⟨c0, c1, c2, c3, c4, c5, c6, c7⟩ := B1.out.cells
    dsimp only at c0 c1 c2 c3 c4 c5 c6 c7
    go_wp2_with (first | (go_at_call 45; refine (pright_any pt _ hp').mono ?_; rintro e w2 ⟨rfl, rfl⟩; rw [HP.out]) | (go_at_call 46; refine (token_any nm _ hn').mono ?_; rintro e w2 ⟨rfl, rfl⟩; rw [HT.out]) | (go_at_call 47; refine (octets_any vl _ hv').mono ?_; rintro e w2 ⟨rfl, rfl⟩; rw [HO.out]))
    go_ret
    exact ⟨by rw [HR.out]; rfl, B1.out.bel⟩
set_option maxRecDepth 100000 in
theorem right_BPTO (nm vl dm pt : ByteArray) (ex : Int) (se ho : Bool) (st : Int) (w : World) (hn' : nm.size ≤ 9223372036854775807) (hv' : vl.size ≤ 9223372036854775807) (hd' : dm.size ≤ 9223372036854775806) (_hp' : pt.size ≤ 9223372036854775807) (hm : HasMax w) (hd0 : dm ≠ ⟨#[]⟩) (hd : canonS dm = some dm) (hp : pt = ⟨#[]⟩) (ht : tokB nm = true) (hoc : allB octB vl = true) :
    Calls Tryd.prog 19 #[.agg #[.string nm, .string vl, .string dm, .string pt, .int .i64 ex, .bool se, .bool ho, .int .i64 st]] w (RGT ⟨nm, vl, dm, pt, ex, se, ho, st⟩ w) := by
    have HM := Lib.hid hm
    clear hm
    have HR := Lib.hid (show rightB ⟨nm, vl, dm, pt, ex, se, ho, st⟩ = numB ex st by unfold rightB; rw [show domB dm = true by exact dom_yes hd, show wayB pt = true by rw [hp]; exact nul_way, ht, hoc]; rfl)
    have HV := Lib.hid (show canonV (canonS dm) = .tuple #[.string dm, .bool true] by rw [hd]; rfl)
    have qd := str_ne0 hd0
    clear hd hd0
    have qp : (pt.toList == []) = true := str_eq0 hp
    clear hp
    have HT := Lib.hid ht
    clear ht
    have HO := Lib.hid hoc
    clear hoc
    go_enter Tryd.func19, Tryd.ntmps19
    go_wp2_with fail
    refine (canon_any dm _ hd' (max_alloc HM.out _)).mono ?_
    rintro e w1 ⟨rfl, hb1⟩
    rw [HV.out]
    have B1 := Lib.hid ((BS.new w ⟨nm, vl, dm, pt, ex, se, ho, st⟩ 23).keep (hb1.mono (by rw [World.size_alloc]; exact Nat.le_refl _)))
    clear hb1
    obtain ⟨c0, c1, c2, c3, c4, c5, c6, c7⟩ := B1.out.cells
    dsimp only at c0 c1 c2 c3 c4 c5 c6 c7
    go_wp2_with (first | (go_at_call 45; refine (pright_any pt _ hp').mono ?_; rintro e w2 ⟨rfl, rfl⟩; rw [HP.out]) | (go_at_call 46; refine (token_any nm _ hn').mono ?_; rintro e w2 ⟨rfl, rfl⟩; rw [HT.out]) | (go_at_call 47; refine (octets_any vl _ hv').mono ?_; rintro e w2 ⟨rfl, rfl⟩; rw [HO.out]))
    · go_ret
      exact ⟨by rw [HR.out]; exact congrArg (fun b => Ending.returned (Value.bool b)) (numB_last ‹_› ‹_› ‹_›), B1.out.bel⟩
    all_goals
      go_ret
      exact ⟨by rw [HR.out, numB_no (by omega)]; rfl, B1.out.bel⟩
set_option maxRecDepth 100000 in
theorem right_BPTo (nm vl dm pt : ByteArray) (ex : Int) (se ho : Bool) (st : Int) (w : World) (hn' : nm.size ≤ 9223372036854775807) (hv' : vl.size ≤ 9223372036854775807) (hd' : dm.size ≤ 9223372036854775806) (_hp' : pt.size ≤ 9223372036854775807) (hm : HasMax w) (hd0 : dm ≠ ⟨#[]⟩) (hd : canonS dm = some dm) (hp : pt = ⟨#[]⟩) (ht : tokB nm = true) (hoc : allB octB vl = false) :
    Calls Tryd.prog 19 #[.agg #[.string nm, .string vl, .string dm, .string pt, .int .i64 ex, .bool se, .bool ho, .int .i64 st]] w (RGT ⟨nm, vl, dm, pt, ex, se, ho, st⟩ w) := by
    have HM := Lib.hid hm
    clear hm
    have HR := Lib.hid (show rightB ⟨nm, vl, dm, pt, ex, se, ho, st⟩ = false by unfold rightB; rw [show domB dm = true by exact dom_yes hd, show wayB pt = true by rw [hp]; exact nul_way, ht, hoc]; simp)
    have HV := Lib.hid (show canonV (canonS dm) = .tuple #[.string dm, .bool true] by rw [hd]; rfl)
    have qd := str_ne0 hd0
    clear hd hd0
    have qp : (pt.toList == []) = true := str_eq0 hp
    clear hp
    have HT := Lib.hid ht
    clear ht
    have HO := Lib.hid hoc
    clear hoc
    go_enter Tryd.func19, Tryd.ntmps19
    go_wp2_with fail
    refine (canon_any dm _ hd' (max_alloc HM.out _)).mono ?_
    rintro e w1 ⟨rfl, hb1⟩
    rw [HV.out]
    have B1 := Lib.hid ((BS.new w ⟨nm, vl, dm, pt, ex, se, ho, st⟩ 23).keep (hb1.mono (by rw [World.size_alloc]; exact Nat.le_refl _)))
    clear hb1
    obtain ⟨c0, c1, c2, c3, c4, c5, c6, c7⟩ := B1.out.cells
    dsimp only at c0 c1 c2 c3 c4 c5 c6 c7
    go_wp2_with (first | (go_at_call 45; refine (pright_any pt _ hp').mono ?_; rintro e w2 ⟨rfl, rfl⟩; rw [HP.out]) | (go_at_call 46; refine (token_any nm _ hn').mono ?_; rintro e w2 ⟨rfl, rfl⟩; rw [HT.out]) | (go_at_call 47; refine (octets_any vl _ hv').mono ?_; rintro e w2 ⟨rfl, rfl⟩; rw [HO.out]))
    go_ret
    exact ⟨by rw [HR.out]; rfl, B1.out.bel⟩
set_option maxRecDepth 100000 in
theorem right_BPt (nm vl dm pt : ByteArray) (ex : Int) (se ho : Bool) (st : Int) (w : World) (hn' : nm.size ≤ 9223372036854775807) (_hv' : vl.size ≤ 9223372036854775807) (hd' : dm.size ≤ 9223372036854775806) (_hp' : pt.size ≤ 9223372036854775807) (hm : HasMax w) (hd0 : dm ≠ ⟨#[]⟩) (hd : canonS dm = some dm) (hp : pt = ⟨#[]⟩) (ht : tokB nm = false) :
    Calls Tryd.prog 19 #[.agg #[.string nm, .string vl, .string dm, .string pt, .int .i64 ex, .bool se, .bool ho, .int .i64 st]] w (RGT ⟨nm, vl, dm, pt, ex, se, ho, st⟩ w) := by
    have HM := Lib.hid hm
    clear hm
    have HR := Lib.hid (show rightB ⟨nm, vl, dm, pt, ex, se, ho, st⟩ = false by unfold rightB; rw [show domB dm = true by exact dom_yes hd, show wayB pt = true by rw [hp]; exact nul_way, ht]; simp)
    have HV := Lib.hid (show canonV (canonS dm) = .tuple #[.string dm, .bool true] by rw [hd]; rfl)
    have qd := str_ne0 hd0
    clear hd hd0
    have qp : (pt.toList == []) = true := str_eq0 hp
    clear hp
    have HT := Lib.hid ht
    clear ht
    go_enter Tryd.func19, Tryd.ntmps19
    go_wp2_with fail
    refine (canon_any dm _ hd' (max_alloc HM.out _)).mono ?_
    rintro e w1 ⟨rfl, hb1⟩
    rw [HV.out]
    have B1 := Lib.hid ((BS.new w ⟨nm, vl, dm, pt, ex, se, ho, st⟩ 23).keep (hb1.mono (by rw [World.size_alloc]; exact Nat.le_refl _)))
    clear hb1
    obtain ⟨c0, c1, c2, c3, c4, c5, c6, c7⟩ := B1.out.cells
    dsimp only at c0 c1 c2 c3 c4 c5 c6 c7
    go_wp2_with (first | (go_at_call 45; refine (pright_any pt _ hp').mono ?_; rintro e w2 ⟨rfl, rfl⟩; rw [HP.out]) | (go_at_call 46; refine (token_any nm _ hn').mono ?_; rintro e w2 ⟨rfl, rfl⟩; rw [HT.out]) | (go_at_call 47; refine (octets_any vl _ hv').mono ?_; rintro e w2 ⟨rfl, rfl⟩; rw [HO.out]))
    go_ret
    exact ⟨by rw [HR.out]; rfl, B1.out.bel⟩
set_option maxRecDepth 100000 in
theorem right_BQTO (nm vl dm pt : ByteArray) (ex : Int) (se ho : Bool) (st : Int) (w : World) (hn' : nm.size ≤ 9223372036854775807) (hv' : vl.size ≤ 9223372036854775807) (hd' : dm.size ≤ 9223372036854775806) (hp' : pt.size ≤ 9223372036854775807) (hm : HasMax w) (hd0 : dm ≠ ⟨#[]⟩) (hd : canonS dm = some dm) (hp0 : pt ≠ ⟨#[]⟩) (hp : pathB pt = true) (ht : tokB nm = true) (hoc : allB octB vl = true) :
    Calls Tryd.prog 19 #[.agg #[.string nm, .string vl, .string dm, .string pt, .int .i64 ex, .bool se, .bool ho, .int .i64 st]] w (RGT ⟨nm, vl, dm, pt, ex, se, ho, st⟩ w) := by
    have HM := Lib.hid hm
    clear hm
    have HR := Lib.hid (show rightB ⟨nm, vl, dm, pt, ex, se, ho, st⟩ = numB ex st by unfold rightB; rw [show domB dm = true by exact dom_yes hd, show wayB pt = true by exact way_yes hp, ht, hoc]; rfl)
    have HV := Lib.hid (show canonV (canonS dm) = .tuple #[.string dm, .bool true] by rw [hd]; rfl)
    have qd := str_ne0 hd0
    clear hd hd0
    have HP := Lib.hid hp
    have qp := str_ne0 hp0
    clear hp hp0
    have HT := Lib.hid ht
    clear ht
    have HO := Lib.hid hoc
    clear hoc
    go_enter Tryd.func19, Tryd.ntmps19
    go_wp2_with fail
    refine (canon_any dm _ hd' (max_alloc HM.out _)).mono ?_
    rintro e w1 ⟨rfl, hb1⟩
    rw [HV.out]
    have B1 := Lib.hid ((BS.new w ⟨nm, vl, dm, pt, ex, se, ho, st⟩ 23).keep (hb1.mono (by rw [World.size_alloc]; exact Nat.le_refl _)))
    clear hb1
    obtain ⟨c0, c1, c2, c3, c4, c5, c6, c7⟩ := B1.out.cells
    dsimp only at c0 c1 c2 c3 c4 c5 c6 c7
    go_wp2_with (first | (go_at_call 45; refine (pright_any pt _ hp').mono ?_; rintro e w2 ⟨rfl, rfl⟩; rw [HP.out]) | (go_at_call 46; refine (token_any nm _ hn').mono ?_; rintro e w2 ⟨rfl, rfl⟩; rw [HT.out]) | (go_at_call 47; refine (octets_any vl _ hv').mono ?_; rintro e w2 ⟨rfl, rfl⟩; rw [HO.out]))
    · go_ret
      exact ⟨by rw [HR.out]; exact congrArg (fun b => Ending.returned (Value.bool b)) (numB_last ‹_› ‹_› ‹_›), B1.out.bel⟩
    all_goals
      go_ret
      exact ⟨by rw [HR.out, numB_no (by omega)]; rfl, B1.out.bel⟩
set_option maxRecDepth 100000 in
theorem right_BQTo (nm vl dm pt : ByteArray) (ex : Int) (se ho : Bool) (st : Int) (w : World) (hn' : nm.size ≤ 9223372036854775807) (hv' : vl.size ≤ 9223372036854775807) (hd' : dm.size ≤ 9223372036854775806) (hp' : pt.size ≤ 9223372036854775807) (hm : HasMax w) (hd0 : dm ≠ ⟨#[]⟩) (hd : canonS dm = some dm) (hp0 : pt ≠ ⟨#[]⟩) (hp : pathB pt = true) (ht : tokB nm = true) (hoc : allB octB vl = false) :
    Calls Tryd.prog 19 #[.agg #[.string nm, .string vl, .string dm, .string pt, .int .i64 ex, .bool se, .bool ho, .int .i64 st]] w (RGT ⟨nm, vl, dm, pt, ex, se, ho, st⟩ w) := by
    have HM := Lib.hid hm
    clear hm
    have HR := Lib.hid (show rightB ⟨nm, vl, dm, pt, ex, se, ho, st⟩ = false by unfold rightB; rw [show domB dm = true by exact dom_yes hd, show wayB pt = true by exact way_yes hp, ht, hoc]; simp)
    have HV := Lib.hid (show canonV (canonS dm) = .tuple #[.string dm, .bool true] by rw [hd]; rfl)
    have qd := str_ne0 hd0
    clear hd hd0
    have HP := Lib.hid hp
    have qp := str_ne0 hp0
    clear hp hp0
    have HT := Lib.hid ht
    clear ht
    have HO := Lib.hid hoc
    clear hoc
    go_enter Tryd.func19, Tryd.ntmps19
    go_wp2_with fail
    refine (canon_any dm _ hd' (max_alloc HM.out _)).mono ?_
    rintro e w1 ⟨rfl, hb1⟩
    rw [HV.out]
    have B1 := Lib.hid ((BS.new w ⟨nm, vl, dm, pt, ex, se, ho, st⟩ 23).keep (hb1.mono (by rw [World.size_alloc]; exact Nat.le_refl _)))
    clear hb1
    obtain ⟨c0, c1, c2, c3, c4, c5, c6, c7⟩ := B1.out.cells
    dsimp only at c0 c1 c2 c3 c4 c5 c6 c7
    go_wp2_with (first | (go_at_call 45; refine (pright_any pt _ hp').mono ?_; rintro e w2 ⟨rfl, rfl⟩; rw [HP.out]) | (go_at_call 46; refine (token_any nm _ hn').mono ?_; rintro e w2 ⟨rfl, rfl⟩; rw [HT.out]) | (go_at_call 47; refine (octets_any vl _ hv').mono ?_; rintro e w2 ⟨rfl, rfl⟩; rw [HO.out]))
    go_ret
    exact ⟨by rw [HR.out]; rfl, B1.out.bel⟩
set_option maxRecDepth 100000 in
theorem right_BQt (nm vl dm pt : ByteArray) (ex : Int) (se ho : Bool) (st : Int) (w : World) (hn' : nm.size ≤ 9223372036854775807) (_hv' : vl.size ≤ 9223372036854775807) (hd' : dm.size ≤ 9223372036854775806) (hp' : pt.size ≤ 9223372036854775807) (hm : HasMax w) (hd0 : dm ≠ ⟨#[]⟩) (hd : canonS dm = some dm) (hp0 : pt ≠ ⟨#[]⟩) (hp : pathB pt = true) (ht : tokB nm = false) :
    Calls Tryd.prog 19 #[.agg #[.string nm, .string vl, .string dm, .string pt, .int .i64 ex, .bool se, .bool ho, .int .i64 st]] w (RGT ⟨nm, vl, dm, pt, ex, se, ho, st⟩ w) := by
    have HM := Lib.hid hm
    clear hm
    have HR := Lib.hid (show rightB ⟨nm, vl, dm, pt, ex, se, ho, st⟩ = false by unfold rightB; rw [show domB dm = true by exact dom_yes hd, show wayB pt = true by exact way_yes hp, ht]; simp)
    have HV := Lib.hid (show canonV (canonS dm) = .tuple #[.string dm, .bool true] by rw [hd]; rfl)
    have qd := str_ne0 hd0
    clear hd hd0
    have HP := Lib.hid hp
    have qp := str_ne0 hp0
    clear hp hp0
    have HT := Lib.hid ht
    clear ht
    go_enter Tryd.func19, Tryd.ntmps19
    go_wp2_with fail
    refine (canon_any dm _ hd' (max_alloc HM.out _)).mono ?_
    rintro e w1 ⟨rfl, hb1⟩
    rw [HV.out]
    have B1 := Lib.hid ((BS.new w ⟨nm, vl, dm, pt, ex, se, ho, st⟩ 23).keep (hb1.mono (by rw [World.size_alloc]; exact Nat.le_refl _)))
    clear hb1
    obtain ⟨c0, c1, c2, c3, c4, c5, c6, c7⟩ := B1.out.cells
    dsimp only at c0 c1 c2 c3 c4 c5 c6 c7
    go_wp2_with (first | (go_at_call 45; refine (pright_any pt _ hp').mono ?_; rintro e w2 ⟨rfl, rfl⟩; rw [HP.out]) | (go_at_call 46; refine (token_any nm _ hn').mono ?_; rintro e w2 ⟨rfl, rfl⟩; rw [HT.out]) | (go_at_call 47; refine (octets_any vl _ hv').mono ?_; rintro e w2 ⟨rfl, rfl⟩; rw [HO.out]))
    go_ret
    exact ⟨by rw [HR.out]; rfl, B1.out.bel⟩
set_option maxRecDepth 100000 in
theorem right_BR (nm vl dm pt : ByteArray) (ex : Int) (se ho : Bool) (st : Int) (w : World) (_hn' : nm.size ≤ 9223372036854775807) (_hv' : vl.size ≤ 9223372036854775807) (hd' : dm.size ≤ 9223372036854775806) (hp' : pt.size ≤ 9223372036854775807) (hm : HasMax w) (hd0 : dm ≠ ⟨#[]⟩) (hd : canonS dm = some dm) (hp0 : pt ≠ ⟨#[]⟩) (hp : pathB pt = false) :
    Calls Tryd.prog 19 #[.agg #[.string nm, .string vl, .string dm, .string pt, .int .i64 ex, .bool se, .bool ho, .int .i64 st]] w (RGT ⟨nm, vl, dm, pt, ex, se, ho, st⟩ w) := by
    have HM := Lib.hid hm
    clear hm
    have HR := Lib.hid (show rightB ⟨nm, vl, dm, pt, ex, se, ho, st⟩ = false by unfold rightB; rw [show domB dm = true by exact dom_yes hd, way_no hp0 hp]; rfl)
    have HV := Lib.hid (show canonV (canonS dm) = .tuple #[.string dm, .bool true] by rw [hd]; rfl)
    have qd := str_ne0 hd0
    clear hd hd0
    have HP := Lib.hid hp
    have qp := str_ne0 hp0
    clear hp hp0
    go_enter Tryd.func19, Tryd.ntmps19
    go_wp2_with fail
    refine (canon_any dm _ hd' (max_alloc HM.out _)).mono ?_
    rintro e w1 ⟨rfl, hb1⟩
    rw [HV.out]
    have B1 := Lib.hid ((BS.new w ⟨nm, vl, dm, pt, ex, se, ho, st⟩ 23).keep (hb1.mono (by rw [World.size_alloc]; exact Nat.le_refl _)))
    clear hb1
    obtain ⟨c0, c1, c2, c3, c4, c5, c6, c7⟩ := B1.out.cells
    dsimp only at c0 c1 c2 c3 c4 c5 c6 c7
    go_wp2_with (first | (go_at_call 45; refine (pright_any pt _ hp').mono ?_; rintro e w2 ⟨rfl, rfl⟩; rw [HP.out]) | (go_at_call 46; refine (token_any nm _ hn').mono ?_; rintro e w2 ⟨rfl, rfl⟩; rw [HT.out]) | (go_at_call 47; refine (octets_any vl _ hv').mono ?_; rintro e w2 ⟨rfl, rfl⟩; rw [HO.out]))
    go_ret
    exact ⟨by rw [HR.out]; rfl, B1.out.bel⟩
set_option maxRecDepth 100000 in
theorem right_C (nm vl dm pt : ByteArray) (ex : Int) (se ho : Bool) (st : Int) (w : World) (_hn' : nm.size ≤ 9223372036854775807) (_hv' : vl.size ≤ 9223372036854775807) (hd' : dm.size ≤ 9223372036854775806) (_hp' : pt.size ≤ 9223372036854775807) (hm : HasMax w) (hd0 : dm ≠ ⟨#[]⟩) (hd : canonS dm = none) :
    Calls Tryd.prog 19 #[.agg #[.string nm, .string vl, .string dm, .string pt, .int .i64 ex, .bool se, .bool ho, .int .i64 st]] w (RGT ⟨nm, vl, dm, pt, ex, se, ho, st⟩ w) := by
    have HM := Lib.hid hm
    clear hm
    have HR := Lib.hid (show rightB ⟨nm, vl, dm, pt, ex, se, ho, st⟩ = false by unfold rightB; rw [dom_no hd0 (by rw [hd]; intro h; cases h)]; rfl)
    have HV := Lib.hid (show canonV (canonS dm) = .tuple #[.string ByteArray.empty, .bool false] by rw [hd]; rfl)
    have qd := str_ne0 hd0
    clear hd hd0
    go_enter Tryd.func19, Tryd.ntmps19
    go_wp2_with fail
    refine (canon_any dm _ hd' (max_alloc HM.out _)).mono ?_
    rintro e w1 ⟨rfl, hb1⟩
    rw [HV.out]
    have B1 := Lib.hid ((BS.new w ⟨nm, vl, dm, pt, ex, se, ho, st⟩ 23).keep (hb1.mono (by rw [World.size_alloc]; exact Nat.le_refl _)))
    clear hb1
    obtain ⟨c0, c1, c2, c3, c4, c5, c6, c7⟩ := B1.out.cells
    dsimp only at c0 c1 c2 c3 c4 c5 c6 c7
    go_wp2_with (first | (go_at_call 45; refine (pright_any pt _ hp').mono ?_; rintro e w2 ⟨rfl, rfl⟩; rw [HP.out]) | (go_at_call 46; refine (token_any nm _ hn').mono ?_; rintro e w2 ⟨rfl, rfl⟩; rw [HT.out]) | (go_at_call 47; refine (octets_any vl _ hv').mono ?_; rintro e w2 ⟨rfl, rfl⟩; rw [HO.out]))
    go_ret
    exact ⟨by rw [HR.out]; rfl, B1.out.bel⟩
set_option maxRecDepth 100000 in
theorem right_D (nm vl dm pt : ByteArray) (ex : Int) (se ho : Bool) (st : Int) (w : World) (_hn' : nm.size ≤ 9223372036854775807) (_hv' : vl.size ≤ 9223372036854775807) (hd' : dm.size ≤ 9223372036854775806) (_hp' : pt.size ≤ 9223372036854775807) (hm : HasMax w) (x : ByteArray) (hd0 : dm ≠ ⟨#[]⟩) (hd : canonS dm = some x) (hx : x ≠ dm) :
    Calls Tryd.prog 19 #[.agg #[.string nm, .string vl, .string dm, .string pt, .int .i64 ex, .bool se, .bool ho, .int .i64 st]] w (RGT ⟨nm, vl, dm, pt, ex, se, ho, st⟩ w) := by
    have HM := Lib.hid hm
    clear hm
    have HR := Lib.hid (show rightB ⟨nm, vl, dm, pt, ex, se, ho, st⟩ = false by unfold rightB; rw [dom_no hd0 (by rw [hd]; intro h; cases h; exact hx rfl)]; rfl)
    have HV := Lib.hid (show canonV (canonS dm) = .tuple #[.string x, .bool true] by rw [hd]; rfl)
    have qd := str_ne0 hd0
    have qx := strs_ne hx
    clear hd hd0 hx
    go_enter Tryd.func19, Tryd.ntmps19
    go_wp2_with fail
    refine (canon_any dm _ hd' (max_alloc HM.out _)).mono ?_
    rintro e w1 ⟨rfl, hb1⟩
    rw [HV.out]
    have B1 := Lib.hid ((BS.new w ⟨nm, vl, dm, pt, ex, se, ho, st⟩ 23).keep (hb1.mono (by rw [World.size_alloc]; exact Nat.le_refl _)))
    clear hb1
    obtain ⟨c0, c1, c2, c3, c4, c5, c6, c7⟩ := B1.out.cells
    dsimp only at c0 c1 c2 c3 c4 c5 c6 c7
    go_wp2_with (first | (go_at_call 45; refine (pright_any pt _ hp').mono ?_; rintro e w2 ⟨rfl, rfl⟩; rw [HP.out]) | (go_at_call 46; refine (token_any nm _ hn').mono ?_; rintro e w2 ⟨rfl, rfl⟩; rw [HT.out]) | (go_at_call 47; refine (octets_any vl _ hv').mono ?_; rintro e w2 ⟨rfl, rfl⟩; rw [HO.out]))
    go_ret
    exact ⟨by rw [HR.out]; rfl, B1.out.bel⟩
theorem right_all (h : Hd) (w : World) (hn : h.nm.size ≤ 9223372036854775807) (hv : h.vl.size ≤ 9223372036854775807) (hd : h.dm.size ≤ 9223372036854775806) (hp : h.pt.size ≤ 9223372036854775807) (hm : HasMax w) :
    Calls Tryd.prog 19 #[hdA h] w fun e w' => e = .returned (.bool (rightB h)) ∧ Below w.heap.size w w' := by
  obtain ⟨nm, vl, dm, pt, ex, se, ho, st⟩ := h
  dsimp only at hn hv hd hp
  have hP : pt = ⟨#[]⟩ ∨ (pt ≠ ⟨#[]⟩ ∧ pathB pt = true) ∨ (pt ≠ ⟨#[]⟩ ∧ pathB pt = false) := by
    by_cases h : pt = ⟨#[]⟩
    · exact Or.inl h
    · cases h2 : pathB pt
      · exact Or.inr (Or.inr ⟨h, rfl⟩)
      · exact Or.inr (Or.inl ⟨h, rfl⟩)
  have hD : dm = ⟨#[]⟩ ∨ (dm ≠ ⟨#[]⟩ ∧ canonS dm = some dm) ∨ (dm ≠ ⟨#[]⟩ ∧ canonS dm = none) ∨ (dm ≠ ⟨#[]⟩ ∧ ∃ x, canonS dm = some x ∧ x ≠ dm) := by
    by_cases h : dm = ⟨#[]⟩
    · exact Or.inl h
    · cases h2 : canonS dm with
      | none => exact Or.inr (Or.inr (Or.inl ⟨h, rfl⟩))
      | some x =>
        by_cases h3 : x = dm
        · subst h3; exact Or.inr (Or.inl ⟨h, rfl⟩)
        · exact Or.inr (Or.inr (Or.inr ⟨h, x, rfl, h3⟩))
  rcases hD with a | ⟨a0, a⟩ | ⟨a0, a⟩ | ⟨a0, x, a, a1⟩
  · rcases hP with b | ⟨b0, b⟩ | ⟨b0, b⟩
    · cases c : tokB nm
      · exact right_APt nm vl dm pt ex se ho st w hn hv hd hp hm a b c
      · cases d : allB octB vl
        · exact right_APTo nm vl dm pt ex se ho st w hn hv hd hp hm a b c d
        · exact right_APTO nm vl dm pt ex se ho st w hn hv hd hp hm a b c d
    · cases c : tokB nm
      · exact right_AQt nm vl dm pt ex se ho st w hn hv hd hp hm a b0 b c
      · cases d : allB octB vl
        · exact right_AQTo nm vl dm pt ex se ho st w hn hv hd hp hm a b0 b c d
        · exact right_AQTO nm vl dm pt ex se ho st w hn hv hd hp hm a b0 b c d
    · exact right_AR nm vl dm pt ex se ho st w hn hv hd hp hm a b0 b
  · rcases hP with b | ⟨b0, b⟩ | ⟨b0, b⟩
    · cases c : tokB nm
      · exact right_BPt nm vl dm pt ex se ho st w hn hv hd hp hm a0 a b c
      · cases d : allB octB vl
        · exact right_BPTo nm vl dm pt ex se ho st w hn hv hd hp hm a0 a b c d
        · exact right_BPTO nm vl dm pt ex se ho st w hn hv hd hp hm a0 a b c d
    · cases c : tokB nm
      · exact right_BQt nm vl dm pt ex se ho st w hn hv hd hp hm a0 a b0 b c
      · cases d : allB octB vl
        · exact right_BQTo nm vl dm pt ex se ho st w hn hv hd hp hm a0 a b0 b c d
        · exact right_BQTO nm vl dm pt ex se ho st w hn hv hd hp hm a0 a b0 b c d
    · exact right_BR nm vl dm pt ex se ho st w hn hv hd hp hm a0 a b0 b
  · exact right_C nm vl dm pt ex se ho st w hn hv hd hp hm a0 a
  · exact right_D nm vl dm pt ex se ho st w hn hv hd hp hm x a0 a a1
end Go.Proofs.YtngamlikhgilhaaDoor
