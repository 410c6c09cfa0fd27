/- Contract of the reference's Right. (printed by wip/genrightr.py) -/
import Derived.Test.YtngamlikhgilhaaGreatDoorZL
namespace Go.Proofs.YtngamlikhgilhaaGreatDoor
open Go.RowKit Go.Shelf

set_option maxRecDepth 100000 in
theorem r16_APTO (nm vl dm pt : ByteArray) (ex : Int) (se ho : Bool) (st : Int) (w : World) (hn' : nm.size ≤ 9223372036854775807) (hv' : vl.size ≤ 9223372036854775807) (hd' : dm.size ≤ 9223372036854775806) (_hp' : pt.size ≤ 9223372036854775807) (hd : dm = ⟨#[]⟩) (hp : pt = ⟨#[]⟩) (ht : tokB nm = true) (hoc : allB octB vl = true) :
    Calls Tryz.prog 15 #[.agg #[.string nm, .string vl, .string dm, .string pt, .int .i64 ex, .bool se, .bool ho, .int .i64 st]] w (RGT ⟨nm, vl, dm, pt, ex, se, ho, st⟩ w) := by
    have HR := Lib.hid (show rightB ⟨nm, vl, dm, pt, ex, se, ho, st⟩ = numB ex st by unfold rightB; rw [show domB dm = true by rw [hd]; exact nul_dom, show wayB pt = true by rw [hp]; exact nul_way, ht, hoc]; rfl)
    have qd : (dm.toList == []) = true := str_eq0 hd
    clear hd
    obtain ⟨cx, cb, hcv⟩ : ∃ cx cb, canonV (canonS dm) = .tuple #[.string cx, .bool cb] := ⟨_, _, rfl⟩
    have HV := Lib.hid hcv
    clear hcv
    have qp : (pt.toList == []) = true := str_eq0 hp
    clear hp
    have HT := Lib.hid ht
    clear ht
    have HO := Lib.hid hoc
    clear hoc
    go_enter Tryz.func15, Tryz.ntmps15
    go_wp2_with fail
    refine (rcanon_any dm _ hd').mono ?_
    rintro e w1 ⟨rfl, hb1⟩
    rw [HV.out]
    have B1 := Lib.hid ((BS.new w ⟨nm, vl, dm, pt, ex, se, ho, st⟩ 27).keep (hb1.mono (by rw [World.size_alloc]; exact Nat.le_refl _)))
    clear hb1
    obtain ⟨c0, c1, c2, c3, c4, c5, c6, c7⟩ := B1.out.cells
    dsimp only at c0 c1 c2 c3 c4 c5 c6 c7
    go_wp2_with (first | (go_at_call 41; refine (rright_any pt _ hp').mono ?_; rintro e w2 ⟨rfl, rfl⟩; rw [HP.out]) | (go_at_call 42; refine (rtoken_any nm _ hn').mono ?_; rintro e w2 ⟨rfl, rfl⟩; rw [HT.out]) | (go_at_call 43; refine (roctets_any vl _ hv').mono ?_; rintro e w2 ⟨rfl, rfl⟩; rw [HO.out]))
    · go_ret
      exact ⟨by rw [HR.out]; exact congrArg (fun b => Ending.returned (Value.bool b)) (numB_last ‹_› ‹_› ‹_›), B1.out.bel⟩
    all_goals
      go_ret
      exact ⟨by rw [HR.out, numB_no (by omega)]; rfl, B1.out.bel⟩
set_option maxRecDepth 100000 in
theorem r16_APTo (nm vl dm pt : ByteArray) (ex : Int) (se ho : Bool) (st : Int) (w : World) (hn' : nm.size ≤ 9223372036854775807) (hv' : vl.size ≤ 9223372036854775807) (hd' : dm.size ≤ 9223372036854775806) (_hp' : pt.size ≤ 9223372036854775807) (hd : dm = ⟨#[]⟩) (hp : pt = ⟨#[]⟩) (ht : tokB nm = true) (hoc : allB octB vl = false) :
    Calls Tryz.prog 15 #[.agg #[.string nm, .string vl, .string dm, .string pt, .int .i64 ex, .bool se, .bool ho, .int .i64 st]] w (RGT ⟨nm, vl, dm, pt, ex, se, ho, st⟩ w) := by
    have HR := Lib.hid (show rightB ⟨nm, vl, dm, pt, ex, se, ho, st⟩ = false by unfold rightB; rw [show domB dm = true by rw [hd]; exact nul_dom, show wayB pt = true by rw [hp]; exact nul_way, ht, hoc]; simp)
    have qd : (dm.toList == []) = true := str_eq0 hd
    clear hd
    obtain ⟨cx, cb, hcv⟩ : ∃ cx cb, canonV (canonS dm) = .tuple #[.string cx, .bool cb] := ⟨_, _, rfl⟩
    have HV := Lib.hid hcv
    clear hcv
    have qp : (pt.toList == []) = true := str_eq0 hp
    clear hp
    have HT := Lib.hid ht
    clear ht
    have HO := Lib.hid hoc
    clear hoc
    go_enter Tryz.func15, Tryz.ntmps15
    go_wp2_with fail
    refine (rcanon_any dm _ hd').mono ?_
    rintro e w1 ⟨rfl, hb1⟩
    rw [HV.out]
    have B1 := Lib.hid ((BS.new w ⟨nm, vl, dm, pt, ex, se, ho, st⟩ 27).keep (hb1.mono (by rw [World.size_alloc]; exact Nat.le_refl _)))
    clear hb1
    obtain ⟨c0, c1, c2, c3, c4, c5, c6, c7⟩ := B1.out.cells
    dsimp only at c0 c1 c2 c3 c4 c5 c6 c7
    go_wp2_with (first | (go_at_call 41; refine (rright_any pt _ hp').mono ?_; rintro e w2 ⟨rfl, rfl⟩; rw [HP.out]) | (go_at_call 42; refine (rtoken_any nm _ hn').mono ?_; rintro e w2 ⟨rfl, rfl⟩; rw [HT.out]) | (go_at_call 43; refine (roctets_any vl _ hv').mono ?_; rintro e w2 ⟨rfl, rfl⟩; rw [HO.out]))
    go_ret
    exact ⟨by rw [HR.out]; rfl, B1.out.bel⟩
set_option maxRecDepth 100000 in
theorem r16_APt (nm vl dm pt : ByteArray) (ex : Int) (se ho : Bool) (st : Int) (w : World) (hn' : nm.size ≤ 9223372036854775807) (_hv' : vl.size ≤ 9223372036854775807) (hd' : dm.size ≤ 9223372036854775806) (_hp' : pt.size ≤ 9223372036854775807) (hd : dm = ⟨#[]⟩) (hp : pt = ⟨#[]⟩) (ht : tokB nm = false) :
    Calls Tryz.prog 15 #[.agg #[.string nm, .string vl, .string dm, .string pt, .int .i64 ex, .bool se, .bool ho, .int .i64 st]] w (RGT ⟨nm, vl, dm, pt, ex, se, ho, st⟩ w) := by
    have HR := Lib.hid (show rightB ⟨nm, vl, dm, pt, ex, se, ho, st⟩ = false by unfold rightB; rw [show domB dm = true by rw [hd]; exact nul_dom, show wayB pt = true by rw [hp]; exact nul_way, ht]; simp)
    have qd : (dm.toList == []) = true := str_eq0 hd
    clear hd
    obtain ⟨cx, cb, hcv⟩ : ∃ cx cb, canonV (canonS dm) = .tuple #[.string cx, .bool cb] := ⟨_, _, rfl⟩
    have HV := Lib.hid hcv
    clear hcv
    have qp : (pt.toList == []) = true := str_eq0 hp
    clear hp
    have HT := Lib.hid ht
    clear ht
    go_enter Tryz.func15, Tryz.ntmps15
    go_wp2_with fail
    refine (rcanon_any dm _ hd').mono ?_
    rintro e w1 ⟨rfl, hb1⟩
    rw [HV.out]
    have B1 := Lib.hid ((BS.new w ⟨nm, vl, dm, pt, ex, se, ho, st⟩ 27).keep (hb1.mono (by rw [World.size_alloc]; exact Nat.le_refl _)))
    clear hb1
    obtain ⟨c0, c1, c2, c3, c4, c5, c6, c7⟩ := B1.out.cells
    dsimp only at c0 c1 c2 c3 c4 c5 c6 c7
    go_wp2_with (first | (go_at_call 41; refine (rright_any pt _ hp').mono ?_; rintro e w2 ⟨rfl, rfl⟩; rw [HP.out]) | (go_at_call 42; refine (rtoken_any nm _ hn').mono ?_; rintro e w2 ⟨rfl, rfl⟩; rw [HT.out]) | (go_at_call 43; refine (roctets_any vl _ hv').mono ?_; rintro e w2 ⟨rfl, rfl⟩; rw [HO.out]))
    go_ret
    exact ⟨by rw [HR.out]; rfl, B1.out.bel⟩
set_option maxRecDepth 100000 in
theorem r16_AQTO (nm vl dm pt : ByteArray) (ex : Int) (se ho : Bool) (st : Int) (w : World) (hn' : nm.size ≤ 9223372036854775807) (hv' : vl.size ≤ 9223372036854775807) (hd' : dm.size ≤ 9223372036854775806) (hp' : pt.size ≤ 9223372036854775807) (hd : dm = ⟨#[]⟩) (hp0 : pt ≠ ⟨#[]⟩) (hp : pathB pt = true) (ht : tokB nm = true) (hoc : allB octB vl = true) :
    Calls Tryz.prog 15 #[.agg #[.string nm, .string vl, .string dm, .string pt, .int .i64 ex, .bool se, .bool ho, .int .i64 st]] w (RGT ⟨nm, vl, dm, pt, ex, se, ho, st⟩ w) := by
    have HR := Lib.hid (show rightB ⟨nm, vl, dm, pt, ex, se, ho, st⟩ = numB ex st by unfold rightB; rw [show domB dm = true by rw [hd]; exact nul_dom, show wayB pt = true by exact way_yes hp, ht, hoc]; rfl)
    have qd : (dm.toList == []) = true := str_eq0 hd
    clear hd
    obtain ⟨cx, cb, hcv⟩ : ∃ cx cb, canonV (canonS dm) = .tuple #[.string cx, .bool cb] := ⟨_, _, rfl⟩
    have HV := Lib.hid hcv
    clear hcv
    have HP := Lib.hid hp
    have qp := str_ne0 hp0
    clear hp hp0
    have HT := Lib.hid ht
    clear ht
    have HO := Lib.hid hoc
    clear hoc
    go_enter Tryz.func15, Tryz.ntmps15
    go_wp2_with fail
    refine (rcanon_any dm _ hd').mono ?_
    rintro e w1 ⟨rfl, hb1⟩
    rw [HV.out]
    have B1 := Lib.hid ((BS.new w ⟨nm, vl, dm, pt, ex, se, ho, st⟩ 27).keep (hb1.mono (by rw [World.size_alloc]; exact Nat.le_refl _)))
    clear hb1
    obtain ⟨c0, c1, c2, c3, c4, c5, c6, c7⟩ := B1.out.cells
    dsimp only at c0 c1 c2 c3 c4 c5 c6 c7
    go_wp2_with (first | (go_at_call 41; refine (rright_any pt _ hp').mono ?_; rintro e w2 ⟨rfl, rfl⟩; rw [HP.out]) | (go_at_call 42; refine (rtoken_any nm _ hn').mono ?_; rintro e w2 ⟨rfl, rfl⟩; rw [HT.out]) | (go_at_call 43; refine (roctets_any vl _ hv').mono ?_; rintro e w2 ⟨rfl, rfl⟩; rw [HO.out]))
    · go_ret
      exact ⟨by rw [HR.out]; exact congrArg (fun b => Ending.returned (Value.bool b)) (numB_last ‹_› ‹_› ‹_›), B1.out.bel⟩
    all_goals
      go_ret
      exact ⟨by rw [HR.out, numB_no (by omega)]; rfl, B1.out.bel⟩
set_option maxRecDepth 100000 in
theorem r16_AQTo (nm vl dm pt : ByteArray) (ex : Int) (se ho : Bool) (st : Int) (w : World) (hn' : nm.size ≤ 9223372036854775807) (hv' : vl.size ≤ 9223372036854775807) (hd' : dm.size ≤ 9223372036854775806) (hp' : pt.size ≤ 9223372036854775807) (hd : dm = ⟨#[]⟩) (hp0 : pt ≠ ⟨#[]⟩) (hp : pathB pt = true) (ht : tokB nm = true) (hoc : allB octB vl = false) :
    Calls Tryz.prog 15 #[.agg #[.string nm, .string vl, .string dm, .string pt, .int .i64 ex, .bool se, .bool ho, .int .i64 st]] w (RGT ⟨nm, vl, dm, pt, ex, se, ho, st⟩ w) := by
    have HR := Lib.hid (show rightB ⟨nm, vl, dm, pt, ex, se, ho, st⟩ = false by unfold rightB; rw [show domB dm = true by rw [hd]; exact nul_dom, show wayB pt = true by exact way_yes hp, ht, hoc]; simp)
    have qd : (dm.toList == []) = true := str_eq0 hd
    clear hd
    obtain ⟨cx, cb, hcv⟩ : ∃ cx cb, canonV (canonS dm) = .tuple #[.string cx, .bool cb] := ⟨_, _, rfl⟩
    have HV := Lib.hid hcv
    clear hcv
    have HP := Lib.hid hp
    have qp := str_ne0 hp0
    clear hp hp0
    have HT := Lib.hid ht
    clear ht
    have HO := Lib.hid hoc
    clear hoc
    go_enter Tryz.func15, Tryz.ntmps15
    go_wp2_with fail
    refine (rcanon_any dm _ hd').mono ?_
    rintro e w1 ⟨rfl, hb1⟩
    rw [HV.out]
    have B1 := Lib.hid ((BS.new w ⟨nm, vl, dm, pt, ex, se, ho, st⟩ 27).keep (hb1.mono (by rw [World.size_alloc]; exact Nat.le_refl _)))
    clear hb1
    obtain ⟨c0, c1, c2, c3, c4, c5, c6, c7⟩ := B1.out.cells
    dsimp only at c0 c1 c2 c3 c4 c5 c6 c7
    go_wp2_with (first | (go_at_call 41; refine (rright_any pt _ hp').mono ?_; rintro e w2 ⟨rfl, rfl⟩; rw [HP.out]) | (go_at_call 42; refine (rtoken_any nm _ hn').mono ?_; rintro e w2 ⟨rfl, rfl⟩; rw [HT.out]) | (go_at_call 43; refine (roctets_any vl _ hv').mono ?_; rintro e w2 ⟨rfl, rfl⟩; rw [HO.out]))
    go_ret
    exact ⟨by rw [HR.out]; rfl, B1.out.bel⟩
set_option maxRecDepth 100000 in
theorem r16_AQt (nm vl dm pt : ByteArray) (ex : Int) (se ho : Bool) (st : Int) (w : World) (hn' : nm.size ≤ 9223372036854775807) (_hv' : vl.size ≤ 9223372036854775807) (hd' : dm.size ≤ 9223372036854775806) (hp' : pt.size ≤ 9223372036854775807) (hd : dm = ⟨#[]⟩) (hp0 : pt ≠ ⟨#[]⟩) (hp : pathB pt = true) (ht : tokB nm = false) :
    Calls Tryz.prog 15 #[.agg #[.string nm, .string vl, .string dm, .string pt, .int .i64 ex, .bool se, .bool ho, .int .i64 st]] w (RGT ⟨nm, vl, dm, pt, ex, se, ho, st⟩ w) := by
    have HR := Lib.hid (show rightB ⟨nm, vl, dm, pt, ex, se, ho, st⟩ = false by unfold rightB; rw [show domB dm = true by rw [hd]; exact nul_dom, show wayB pt = true by exact way_yes hp, ht]; simp)
    have qd : (dm.toList == []) = true := str_eq0 hd
    clear hd
    obtain ⟨cx, cb, hcv⟩ : ∃ cx cb, canonV (canonS dm) = .tuple #[.string cx, .bool cb] := ⟨_, _, rfl⟩
    have HV := Lib.hid hcv
    clear hcv
    have HP := Lib.hid hp
    have qp := str_ne0 hp0
    clear hp hp0
    have HT := Lib.hid ht
    clear ht
    go_enter Tryz.func15, Tryz.ntmps15
    go_wp2_with fail
    refine (rcanon_any dm _ hd').mono ?_
    rintro e w1 ⟨rfl, hb1⟩
    rw [HV.out]
    have B1 := Lib.hid ((BS.new w ⟨nm, vl, dm, pt, ex, se, ho, st⟩ 27).keep (hb1.mono (by rw [World.size_alloc]; exact Nat.le_refl _)))
    clear hb1
    obtain ⟨c0, c1, c2, c3, c4, c5, c6, c7⟩ := B1.out.cells
    dsimp only at c0 c1 c2 c3 c4 c5 c6 c7
    go_wp2_with (first | (go_at_call 41; refine (rright_any pt _ hp').mono ?_; rintro e w2 ⟨rfl, rfl⟩; rw [HP.out]) | (go_at_call 42; refine (rtoken_any nm _ hn').mono ?_; rintro e w2 ⟨rfl, rfl⟩; rw [HT.out]) | (go_at_call 43; refine (roctets_any vl _ hv').mono ?_; rintro e w2 ⟨rfl, rfl⟩; rw [HO.out]))
    go_ret
    exact ⟨by rw [HR.out]; rfl, B1.out.bel⟩
set_option maxRecDepth 100000 in
theorem r16_AR (nm vl dm pt : ByteArray) (ex : Int) (se ho : Bool) (st : Int) (w : World) (_hn' : nm.size ≤ 9223372036854775807) (_hv' : vl.size ≤ 9223372036854775807) (hd' : dm.size ≤ 9223372036854775806) (hp' : pt.size ≤ 9223372036854775807) (hd : dm = ⟨#[]⟩) (hp0 : pt ≠ ⟨#[]⟩) (hp : pathB pt = false) :
    Calls Tryz.prog 15 #[.agg #[.string nm, .string vl, .string dm, .string pt, .int .i64 ex, .bool se, .bool ho, .int .i64 st]] w (RGT ⟨nm, vl, dm, pt, ex, se, ho, st⟩ w) := by
    have HR := Lib.hid (show rightB ⟨nm, vl, dm, pt, ex, se, ho, st⟩ = false by unfold rightB; rw [show domB dm = true by rw [hd]; exact nul_dom, way_no hp0 hp]; rfl)
    have qd : (dm.toList == []) = true := str_eq0 hd
    clear hd
    obtain ⟨cx, cb, hcv⟩ : ∃ cx cb, canonV (canonS dm) = .tuple #[.string cx, .bool cb] := ⟨_, _, rfl⟩
    have HV := Lib.hid hcv
    clear hcv
    have HP := Lib.hid hp
    have qp := str_ne0 hp0
    clear hp hp0
    go_enter Tryz.func15, Tryz.ntmps15
    go_wp2_with fail
    refine (rcanon_any dm _ hd').mono ?_
    rintro e w1 ⟨rfl, hb1⟩
    rw [HV.out]
    have B1 := Lib.hid ((BS.new w ⟨nm, vl, dm, pt, ex, se, ho, st⟩ 27).keep (hb1.mono (by rw [World.size_alloc]; exact Nat.le_refl _)))
    clear hb1
    obtain ⟨c0, c1, c2, c3, c4, c5, c6, c7⟩ := B1.out.cells
    dsimp only at c0 c1 c2 c3 c4 c5 c6 c7
    go_wp2_with (first | (go_at_call 41; refine (rright_any pt _ hp').mono ?_; rintro e w2 ⟨rfl, rfl⟩; rw [HP.out]) | (go_at_call 42; refine (rtoken_any nm _ hn').mono ?_; rintro e w2 ⟨rfl, rfl⟩; rw [HT.out]) | (go_at_call 43; refine (roctets_any vl _ hv').mono ?_; rintro e w2 ⟨rfl, rfl⟩; rw [HO.out]))
    go_ret
    exact ⟨by rw [HR.out]; rfl, B1.out.bel⟩
set_option maxRecDepth 100000 in
theorem r16_BPTO (nm vl dm pt : ByteArray) (ex : Int) (se ho : Bool) (st : Int) (w : World) (hn' : nm.size ≤ 9223372036854775807) (hv' : vl.size ≤ 9223372036854775807) (hd' : dm.size ≤ 9223372036854775806) (_hp' : pt.size ≤ 9223372036854775807) (hd0 : dm ≠ ⟨#[]⟩) (hd : canonS dm = some dm) (hp : pt = ⟨#[]⟩) (ht : tokB nm = true) (hoc : allB octB vl = true) :
    Calls Tryz.prog 15 #[.agg #[.string nm, .string vl, .string dm, .string pt, .int .i64 ex, .bool se, .bool ho, .int .i64 st]] w (RGT ⟨nm, vl, dm, pt, ex, se, ho, st⟩ w) := by
    have HR := Lib.hid (show rightB ⟨nm, vl, dm, pt, ex, se, ho, st⟩ = numB ex st by unfold rightB; rw [show domB dm = true by exact dom_yes hd, show wayB pt = true by rw [hp]; exact nul_way, ht, hoc]; rfl)
    have HV := Lib.hid (show canonV (canonS dm) = .tuple #[.string dm, .bool true] by rw [hd]; rfl)
    have qd := str_ne0 hd0
    clear hd hd0
    have qp : (pt.toList == []) = true := str_eq0 hp
    clear hp
    have HT := Lib.hid ht
    clear ht
    have HO := Lib.hid hoc
    clear hoc
    go_enter Tryz.func15, Tryz.ntmps15
    go_wp2_with fail
    refine (rcanon_any dm _ hd').mono ?_
    rintro e w1 ⟨rfl, hb1⟩
    rw [HV.out]
    have B1 := Lib.hid ((BS.new w ⟨nm, vl, dm, pt, ex, se, ho, st⟩ 27).keep (hb1.mono (by rw [World.size_alloc]; exact Nat.le_refl _)))
    clear hb1
    obtain ⟨c0, c1, c2, c3, c4, c5, c6, c7⟩ := B1.out.cells
    dsimp only at c0 c1 c2 c3 c4 c5 c6 c7
    go_wp2_with (first | (go_at_call 41; refine (rright_any pt _ hp').mono ?_; rintro e w2 ⟨rfl, rfl⟩; rw [HP.out]) | (go_at_call 42; refine (rtoken_any nm _ hn').mono ?_; rintro e w2 ⟨rfl, rfl⟩; rw [HT.out]) | (go_at_call 43; refine (roctets_any vl _ hv').mono ?_; rintro e w2 ⟨rfl, rfl⟩; rw [HO.out]))
    · go_ret
      exact ⟨by rw [HR.out]; exact congrArg (fun b => Ending.returned (Value.bool b)) (numB_last ‹_› ‹_› ‹_›), B1.out.bel⟩
    all_goals
      go_ret
      exact ⟨by rw [HR.out, numB_no (by omega)]; rfl, B1.out.bel⟩
set_option maxRecDepth 100000 in
theorem r16_BPTo (nm vl dm pt : ByteArray) (ex : Int) (se ho : Bool) (st : Int) (w : World) (hn' : nm.size ≤ 9223372036854775807) (hv' : vl.size ≤ 9223372036854775807) (hd' : dm.size ≤ 9223372036854775806) (_hp' : pt.size ≤ 9223372036854775807) (hd0 : dm ≠ ⟨#[]⟩) (hd : canonS dm = some dm) (hp : pt = ⟨#[]⟩) (ht : tokB nm = true) (hoc : allB octB vl = false) :
    Calls Tryz.prog 15 #[.agg #[.string nm, .string vl, .string dm, .string pt, .int .i64 ex, .bool se, .bool ho, .int .i64 st]] w (RGT ⟨nm, vl, dm, pt, ex, se, ho, st⟩ w) := by
    have HR := Lib.hid (show rightB ⟨nm, vl, dm, pt, ex, se, ho, st⟩ = false by unfold rightB; rw [show domB dm = true by exact dom_yes hd, show wayB pt = true by rw [hp]; exact nul_way, ht, hoc]; simp)
    have HV := Lib.hid (show canonV (canonS dm) = .tuple #[.string dm, .bool true] by rw [hd]; rfl)
    have qd := str_ne0 hd0
    clear hd hd0
    have qp : (pt.toList == []) = true := str_eq0 hp
    clear hp
    have HT := Lib.hid ht
    clear ht
    have HO := Lib.hid hoc
    clear hoc
    go_enter Tryz.func15, Tryz.ntmps15
    go_wp2_with fail
    refine (rcanon_any dm _ hd').mono ?_
    rintro e w1 ⟨rfl, hb1⟩
    rw [HV.out]
    have B1 := Lib.hid ((BS.new w ⟨nm, vl, dm, pt, ex, se, ho, st⟩ 27).keep (hb1.mono (by rw [World.size_alloc]; exact Nat.le_refl _)))
    clear hb1
    obtain ⟨c0, c1, c2, c3, c4, c5, c6, c7⟩ := B1.out.cells
    dsimp only at c0 c1 c2 c3 c4 c5 c6 c7
    go_wp2_with (first | (go_at_call 41; refine (rright_any pt _ hp').mono ?_; rintro e w2 ⟨rfl, rfl⟩; rw [HP.out]) | (go_at_call 42; refine (rtoken_any nm _ hn').mono ?_; rintro e w2 ⟨rfl, rfl⟩; rw [HT.out]) | (go_at_call 43; refine (roctets_any vl _ hv').mono ?_; rintro e w2 ⟨rfl, rfl⟩; rw [HO.out]))
    go_ret
    exact ⟨by rw [HR.out]; rfl, B1.out.bel⟩
set_option maxRecDepth 100000 in
theorem r16_BPt (nm vl dm pt : ByteArray) (ex : Int) (se ho : Bool) (st : Int) (w : World) (hn' : nm.size ≤ 9223372036854775807) (_hv' : vl.size ≤ 9223372036854775807) (hd' : dm.size ≤ 9223372036854775806) (_hp' : pt.size ≤ 9223372036854775807) (hd0 : dm ≠ ⟨#[]⟩) (hd : canonS dm = some dm) (hp : pt = ⟨#[]⟩) (ht : tokB nm = false) :
    Calls Tryz.prog 15 #[.agg #[.string nm, .string vl, .string dm, .string pt, .int .i64 ex, .bool se, .bool ho, .int .i64 st]] w (RGT ⟨nm, vl, dm, pt, ex, se, ho, st⟩ w) := by
    have HR := Lib.hid (show rightB ⟨nm, vl, dm, pt, ex, se, ho, st⟩ = false by unfold rightB; rw [show domB dm = true by exact dom_yes hd, show wayB pt = true by rw [hp]; exact nul_way, ht]; simp)
    have HV := Lib.hid (show canonV (canonS dm) = .tuple #[.string dm, .bool true] by rw [hd]; rfl)
    have qd := str_ne0 hd0
    clear hd hd0
    have qp : (pt.toList == []) = true := str_eq0 hp
    clear hp
    have HT := Lib.hid ht
    clear ht
    go_enter Tryz.func15, Tryz.ntmps15
    go_wp2_with fail
    refine (rcanon_any dm _ hd').mono ?_
    rintro e w1 ⟨rfl, hb1⟩
    rw [HV.out]
    have B1 := Lib.hid ((BS.new w ⟨nm, vl, dm, pt, ex, se, ho, st⟩ 27).keep (hb1.mono (by rw [World.size_alloc]; exact Nat.le_refl _)))
    clear hb1
    obtain ⟨c0, c1, c2, c3, c4, c5, c6, c7⟩ := B1.out.cells
    dsimp only at c0 c1 c2 c3 c4 c5 c6 c7
    go_wp2_with (first | (go_at_call 41; refine (rright_any pt _ hp').mono ?_; rintro e w2 ⟨rfl, rfl⟩; rw [HP.out]) | (go_at_call 42; refine (rtoken_any nm _ hn').mono ?_; rintro e w2 ⟨rfl, rfl⟩; rw [HT.out]) | (go_at_call 43; refine (roctets_any vl _ hv').mono ?_; rintro e w2 ⟨rfl, rfl⟩; rw [HO.out]))
    go_ret
    exact ⟨by rw [HR.out]; rfl, B1.out.bel⟩
set_option maxRecDepth 100000 in
theorem r16_BQTO (nm vl dm pt : ByteArray) (ex : Int) (se ho : Bool) (st : Int) (w : World) (hn' : nm.size ≤ 9223372036854775807) (hv' : vl.size ≤ 9223372036854775807) (hd' : dm.size ≤ 9223372036854775806) (hp' : pt.size ≤ 9223372036854775807) (hd0 : dm ≠ ⟨#[]⟩) (hd : canonS dm = some dm) (hp0 : pt ≠ ⟨#[]⟩) (hp : pathB pt = true) (ht : tokB nm = true) (hoc : allB octB vl = true) :
    Calls Tryz.prog 15 #[.agg #[.string nm, .string vl, .string dm, .string pt, .int .i64 ex, .bool se, .bool ho, .int .i64 st]] w (RGT ⟨nm, vl, dm, pt, ex, se, ho, st⟩ w) := by
    have HR := Lib.hid (show rightB ⟨nm, vl, dm, pt, ex, se, ho, st⟩ = numB ex st by unfold rightB; rw [show domB dm = true by exact dom_yes hd, show wayB pt = true by exact way_yes hp, ht, hoc]; rfl)
    have HV := Lib.hid (show canonV (canonS dm) = .tuple #[.string dm, .bool true] by rw [hd]; rfl)
    have qd := str_ne0 hd0
    clear hd hd0
    have HP := Lib.hid hp
    have qp := str_ne0 hp0
    clear hp hp0
    have HT := Lib.hid ht
    clear ht
    have HO := Lib.hid hoc
    clear hoc
    go_enter Tryz.func15, Tryz.ntmps15
    go_wp2_with fail
    refine (rcanon_any dm _ hd').mono ?_
    rintro e w1 ⟨rfl, hb1⟩
    rw [HV.out]
    have B1 := Lib.hid ((BS.new w ⟨nm, vl, dm, pt, ex, se, ho, st⟩ 27).keep (hb1.mono (by rw [World.size_alloc]; exact Nat.le_refl _)))
    clear hb1
    obtain ⟨c0, c1, c2, c3, c4, c5, c6, c7⟩ := B1.out.cells
    dsimp only at c0 c1 c2 c3 c4 c5 c6 c7
    go_wp2_with (first | (go_at_call 41; refine (rright_any pt _ hp').mono ?_; rintro e w2 ⟨rfl, rfl⟩; rw [HP.out]) | (go_at_call 42; refine (rtoken_any nm _ hn').mono ?_; rintro e w2 ⟨rfl, rfl⟩; rw [HT.out]) | (go_at_call 43; refine (roctets_any vl _ hv').mono ?_; rintro e w2 ⟨rfl, rfl⟩; rw [HO.out]))
    · go_ret
      exact ⟨by rw [HR.out]; exact congrArg (fun b => Ending.returned (Value.bool b)) (numB_last ‹_› ‹_› ‹_›), B1.out.bel⟩
    all_goals
      go_ret
      exact ⟨by rw [HR.out, numB_no (by omega)]; rfl, B1.out.bel⟩
set_option maxRecDepth 100000 in
theorem r16_BQTo (nm vl dm pt : ByteArray) (ex : Int) (se ho : Bool) (st : Int) (w : World) (hn' : nm.size ≤ 9223372036854775807) (hv' : vl.size ≤ 9223372036854775807) (hd' : dm.size ≤ 9223372036854775806) (hp' : pt.size ≤ 9223372036854775807) (hd0 : dm ≠ ⟨#[]⟩) (hd : canonS dm = some dm) (hp0 : pt ≠ ⟨#[]⟩) (hp : pathB pt = true) (ht : tokB nm = true) (hoc : allB octB vl = false) :
    Calls Tryz.prog 15 #[.agg #[.string nm, .string vl, .string dm, .string pt, .int .i64 ex, .bool se, .bool ho, .int .i64 st]] w (RGT ⟨nm, vl, dm, pt, ex, se, ho, st⟩ w) := by
    have HR := Lib.hid (show rightB ⟨nm, vl, dm, pt, ex, se, ho, st⟩ = false by unfold rightB; rw [show domB dm = true by exact dom_yes hd, show wayB pt = true by exact way_yes hp, ht, hoc]; simp)
    have HV := Lib.hid (show canonV (canonS dm) = .tuple #[.string dm, .bool true] by rw [hd]; rfl)
    have qd := str_ne0 hd0
    clear hd hd0
    have HP := Lib.hid hp
    have qp := str_ne0 hp0
    clear hp hp0
    have HT := Lib.hid ht
    clear ht
    have HO := Lib.hid hoc
    clear hoc
    go_enter Tryz.func15, Tryz.ntmps15
    go_wp2_with fail
    refine (rcanon_any dm _ hd').mono ?_
    rintro e w1 ⟨rfl, hb1⟩
    rw [HV.out]
    have B1 := Lib.hid ((BS.new w ⟨nm, vl, dm, pt, ex, se, ho, st⟩ 27).keep (hb1.mono (by rw [World.size_alloc]; exact Nat.le_refl _)))
    clear hb1
    obtain ⟨c0, c1, c2, c3, c4, c5, c6, c7⟩ := B1.out.cells
    dsimp only at c0 c1 c2 c3 c4 c5 c6 c7
    go_wp2_with (first | (go_at_call 41; refine (rright_any pt _ hp').mono ?_; rintro e w2 ⟨rfl, rfl⟩; rw [HP.out]) | (go_at_call 42; refine (rtoken_any nm _ hn').mono ?_; rintro e w2 ⟨rfl, rfl⟩; rw [HT.out]) | (go_at_call 43; refine (roctets_any vl _ hv').mono ?_; rintro e w2 ⟨rfl, rfl⟩; rw [HO.out]))
    go_ret
    exact ⟨by rw [HR.out]; rfl, B1.out.bel⟩
set_option maxRecDepth 100000 in
theorem r16_BQt (nm vl dm pt : ByteArray) (ex : Int) (se ho : Bool) (st : Int) (w : World) (hn' : nm.size ≤ 9223372036854775807) (_hv' : vl.size ≤ 9223372036854775807) (hd' : dm.size ≤ 9223372036854775806) (hp' : pt.size ≤ 9223372036854775807) (hd0 : dm ≠ ⟨#[]⟩) (hd : canonS dm = some dm) (hp0 : pt ≠ ⟨#[]⟩) (hp : pathB pt = true) (ht : tokB nm = false) :
    Calls Tryz.prog 15 #[.agg #[.string nm, .string vl, .string dm, .string pt, .int .i64 ex, .bool se, .bool ho, .int .i64 st]] w (RGT ⟨nm, vl, dm, pt, ex, se, ho, st⟩ w) := by
    have HR := Lib.hid (show rightB ⟨nm, vl, dm, pt, ex, se, ho, st⟩ = false by unfold rightB; rw [show domB dm = true by exact dom_yes hd, show wayB pt = true by exact way_yes hp, ht]; simp)
    have HV := Lib.hid (show canonV (canonS dm) = .tuple #[.string dm, .bool true] by rw [hd]; rfl)
    have qd := str_ne0 hd0
    clear hd hd0
    have HP := Lib.hid hp
    have qp := str_ne0 hp0
    clear hp hp0
    have HT := Lib.hid ht
    clear ht
    go_enter Tryz.func15, Tryz.ntmps15
    go_wp2_with fail
    refine (rcanon_any dm _ hd').mono ?_
    rintro e w1 ⟨rfl, hb1⟩
    rw [HV.out]
    have B1 := Lib.hid ((BS.new w ⟨nm, vl, dm, pt, ex, se, ho, st⟩ 27).keep (hb1.mono (by rw [World.size_alloc]; exact Nat.le_refl _)))
    clear hb1
    obtain ⟨c0, c1, c2, c3, c4, c5, c6, c7⟩ := B1.out.cells
    dsimp only at c0 c1 c2 c3 c4 c5 c6 c7
    go_wp2_with (first | (go_at_call 41; refine (rright_any pt _ hp').mono ?_; rintro e w2 ⟨rfl, rfl⟩; rw [HP.out]) | (go_at_call 42; refine (rtoken_any nm _ hn').mono ?_; rintro e w2 ⟨rfl, rfl⟩; rw [HT.out]) | (go_at_call 43; refine (roctets_any vl _ hv').mono ?_; rintro e w2 ⟨rfl, rfl⟩; rw [HO.out]))
    go_ret
    exact ⟨by rw [HR.out]; rfl, B1.out.bel⟩
set_option maxRecDepth 100000 in
theorem r16_BR (nm vl dm pt : ByteArray) (ex : Int) (se ho : Bool) (st : Int) (w : World) (_hn' : nm.size ≤ 9223372036854775807) (_hv' : vl.size ≤ 9223372036854775807) (hd' : dm.size ≤ 9223372036854775806) (hp' : pt.size ≤ 9223372036854775807) (hd0 : dm ≠ ⟨#[]⟩) (hd : canonS dm = some dm) (hp0 : pt ≠ ⟨#[]⟩) (hp : pathB pt = false) :
    Calls Tryz.prog 15 #[.agg #[.string nm, .string vl, .string dm, .string pt, .int .i64 ex, .bool se, .bool ho, .int .i64 st]] w (RGT ⟨nm, vl, dm, pt, ex, se, ho, st⟩ w) := by
    have HR := Lib.hid (show rightB ⟨nm, vl, dm, pt, ex, se, ho, st⟩ = false by unfold rightB; rw [show domB dm = true by exact dom_yes hd, way_no hp0 hp]; rfl)
    have HV := Lib.hid (show canonV (canonS dm) = .tuple #[.string dm, .bool true] by rw [hd]; rfl)
    have qd := str_ne0 hd0
    clear hd hd0
    have HP := Lib.hid hp
    have qp := str_ne0 hp0
    clear hp hp0
    go_enter Tryz.func15, Tryz.ntmps15
    go_wp2_with fail
    refine (rcanon_any dm _ hd').mono ?_
    rintro e w1 ⟨rfl, hb1⟩
    rw [HV.out]
    have B1 := Lib.hid ((BS.new w ⟨nm, vl, dm, pt, ex, se, ho, st⟩ 27).keep (hb1.mono (by rw [World.size_alloc]; exact Nat.le_refl _)))
    clear hb1
    obtain ⟨c0, c1, c2, c3, c4, c5, c6, c7⟩ := B1.out.cells
    dsimp only at c0 c1 c2 c3 c4 c5 c6 c7
    go_wp2_with (first | (go_at_call 41; refine (rright_any pt _ hp').mono ?_; rintro e w2 ⟨rfl, rfl⟩; rw [HP.out]) | (go_at_call 42; refine (rtoken_any nm _ hn').mono ?_; rintro e w2 ⟨rfl, rfl⟩; rw [HT.out]) | (go_at_call 43; refine (roctets_any vl _ hv').mono ?_; rintro e w2 ⟨rfl, rfl⟩; rw [HO.out]))
    go_ret
    exact ⟨by rw [HR.out]; rfl, B1.out.bel⟩
set_option maxRecDepth 100000 in
theorem r16_C (nm vl dm pt : ByteArray) (ex : Int) (se ho : Bool) (st : Int) (w : World) (_hn' : nm.size ≤ 9223372036854775807) (_hv' : vl.size ≤ 9223372036854775807) (hd' : dm.size ≤ 9223372036854775806) (_hp' : pt.size ≤ 9223372036854775807) (hd0 : dm ≠ ⟨#[]⟩) (hd : canonS dm = none) :
    Calls Tryz.prog 15 #[.agg #[.string nm, .string vl, .string dm, .string pt, .int .i64 ex, .bool se, .bool ho, .int .i64 st]] w (RGT ⟨nm, vl, dm, pt, ex, se, ho, st⟩ w) := by
    have HR := Lib.hid (show rightB ⟨nm, vl, dm, pt, ex, se, ho, st⟩ = false by unfold rightB; rw [dom_no hd0 (by rw [hd]; intro h; cases h)]; rfl)
    have HV := Lib.hid (show canonV (canonS dm) = .tuple #[.string ByteArray.empty, .bool false] by rw [hd]; rfl)
    have qd := str_ne0 hd0
    clear hd hd0
    go_enter Tryz.func15, Tryz.ntmps15
    go_wp2_with fail
    refine (rcanon_any dm _ hd').mono ?_
    rintro e w1 ⟨rfl, hb1⟩
    rw [HV.out]
    have B1 := Lib.hid ((BS.new w ⟨nm, vl, dm, pt, ex, se, ho, st⟩ 27).keep (hb1.mono (by rw [World.size_alloc]; exact Nat.le_refl _)))
    clear hb1
    obtain ⟨c0, c1, c2, c3, c4, c5, c6, c7⟩ := B1.out.cells
    dsimp only at c0 c1 c2 c3 c4 c5 c6 c7
    go_wp2_with (first | (go_at_call 41; refine (rright_any pt _ hp').mono ?_; rintro e w2 ⟨rfl, rfl⟩; rw [HP.out]) | (go_at_call 42; refine (rtoken_any nm _ hn').mono ?_; rintro e w2 ⟨rfl, rfl⟩; rw [HT.out]) | (go_at_call 43; refine (roctets_any vl _ hv').mono ?_; rintro e w2 ⟨rfl, rfl⟩; rw [HO.out]))
    go_ret
    exact ⟨by rw [HR.out]; rfl, B1.out.bel⟩
set_option maxRecDepth 100000 in
theorem r16_D (nm vl dm pt : ByteArray) (ex : Int) (se ho : Bool) (st : Int) (w : World) (_hn' : nm.size ≤ 9223372036854775807) (_hv' : vl.size ≤ 9223372036854775807) (hd' : dm.size ≤ 9223372036854775806) (_hp' : pt.size ≤ 9223372036854775807) (x : ByteArray) (hd0 : dm ≠ ⟨#[]⟩) (hd : canonS dm = some x) (hx : x ≠ dm) :
    Calls Tryz.prog 15 #[.agg #[.string nm, .string vl, .string dm, .string pt, .int .i64 ex, .bool se, .bool ho, .int .i64 st]] w (RGT ⟨nm, vl, dm, pt, ex, se, ho, st⟩ w) := by
    have HR := Lib.hid (show rightB ⟨nm, vl, dm, pt, ex, se, ho, st⟩ = false by unfold rightB; rw [dom_no hd0 (by rw [hd]; intro h; cases h; exact hx rfl)]; rfl)
    have HV := Lib.hid (show canonV (canonS dm) = .tuple #[.string x, .bool true] by rw [hd]; rfl)
    have qd := str_ne0 hd0
    have qx := strs_ne hx
    clear hd hd0 hx
    go_enter Tryz.func15, Tryz.ntmps15
    go_wp2_with fail
    refine (rcanon_any dm _ hd').mono ?_
    rintro e w1 ⟨rfl, hb1⟩
    rw [HV.out]
    have B1 := Lib.hid ((BS.new w ⟨nm, vl, dm, pt, ex, se, ho, st⟩ 27).keep (hb1.mono (by rw [World.size_alloc]; exact Nat.le_refl _)))
    clear hb1
    obtain ⟨c0, c1, c2, c3, c4, c5, c6, c7⟩ := B1.out.cells
    dsimp only at c0 c1 c2 c3 c4 c5 c6 c7
    go_wp2_with (first | (go_at_call 41; refine (rright_any pt _ hp').mono ?_; rintro e w2 ⟨rfl, rfl⟩; rw [HP.out]) | (go_at_call 42; refine (rtoken_any nm _ hn').mono ?_; rintro e w2 ⟨rfl, rfl⟩; rw [HT.out]) | (go_at_call 43; refine (roctets_any vl _ hv').mono ?_; rintro e w2 ⟨rfl, rfl⟩; rw [HO.out]))
    go_ret
    exact ⟨by rw [HR.out]; rfl, B1.out.bel⟩
theorem r16_all (h : Hd) (w : World) (hn : h.nm.size ≤ 9223372036854775807) (hv : h.vl.size ≤ 9223372036854775807) (hd : h.dm.size ≤ 9223372036854775806) (hp : h.pt.size ≤ 9223372036854775807) :
    Calls Tryz.prog 15 #[hdA h] w fun e w' => e = .returned (.bool (rightB h)) ∧ Below w.heap.size w w' := by
  obtain ⟨nm, vl, dm, pt, ex, se, ho, st⟩ := h
  dsimp only at hn hv hd hp
  have hP : pt = ⟨#[]⟩ ∨ (pt ≠ ⟨#[]⟩ ∧ pathB pt = true) ∨ (pt ≠ ⟨#[]⟩ ∧ pathB pt = false) := by
    by_cases h : pt = ⟨#[]⟩
    · exact Or.inl h
    · cases h2 : pathB pt
      · exact Or.inr (Or.inr ⟨h, rfl⟩)
      · exact Or.inr (Or.inl ⟨h, rfl⟩)
  have hD : dm = ⟨#[]⟩ ∨ (dm ≠ ⟨#[]⟩ ∧ canonS dm = some dm) ∨ (dm ≠ ⟨#[]⟩ ∧ canonS dm = none) ∨ (dm ≠ ⟨#[]⟩ ∧ ∃ x, canonS dm = some x ∧ x ≠ dm) := by
    by_cases h : dm = ⟨#[]⟩
    · exact Or.inl h
    · cases h2 : canonS dm with
      | none => exact Or.inr (Or.inr (Or.inl ⟨h, rfl⟩))
      | some x =>
        by_cases h3 : x = dm
        · subst h3; exact Or.inr (Or.inl ⟨h, rfl⟩)
        · exact Or.inr (Or.inr (Or.inr ⟨h, x, rfl, h3⟩))
  rcases hD with a | ⟨a0, a⟩ | ⟨a0, a⟩ | ⟨a0, x, a, a1⟩
  · rcases hP with b | ⟨b0, b⟩ | ⟨b0, b⟩
    · cases c : tokB nm
      · exact r16_APt nm vl dm pt ex se ho st w hn hv hd hp a b c
      · cases d : allB octB vl
        · exact r16_APTo nm vl dm pt ex se ho st w hn hv hd hp a b c d
        · exact r16_APTO nm vl dm pt ex se ho st w hn hv hd hp a b c d
    · cases c : tokB nm
      · exact r16_AQt nm vl dm pt ex se ho st w hn hv hd hp a b0 b c
      · cases d : allB octB vl
        · exact r16_AQTo nm vl dm pt ex se ho st w hn hv hd hp a b0 b c d
        · exact r16_AQTO nm vl dm pt ex se ho st w hn hv hd hp a b0 b c d
    · exact r16_AR nm vl dm pt ex se ho st w hn hv hd hp a b0 b
  · rcases hP with b | ⟨b0, b⟩ | ⟨b0, b⟩
    · cases c : tokB nm
      · exact r16_BPt nm vl dm pt ex se ho st w hn hv hd hp a0 a b c
      · cases d : allB octB vl
        · exact r16_BPTo nm vl dm pt ex se ho st w hn hv hd hp a0 a b c d
        · exact r16_BPTO nm vl dm pt ex se ho st w hn hv hd hp a0 a b c d
    · cases c : tokB nm
      · exact r16_BQt nm vl dm pt ex se ho st w hn hv hd hp a0 a b0 b c
      · cases d : allB octB vl
        · exact r16_BQTo nm vl dm pt ex se ho st w hn hv hd hp a0 a b0 b c d
        · exact r16_BQTO nm vl dm pt ex se ho st w hn hv hd hp a0 a b0 b c d
    · exact r16_BR nm vl dm pt ex se ho st w hn hv hd hp a0 a b0 b
  · exact r16_C nm vl dm pt ex se ho st w hn hv hd hp a0 a
  · exact r16_D nm vl dm pt ex se ho st w hn hv hd hp x a0 a a1
end Go.Proofs.YtngamlikhgilhaaGreatDoor
