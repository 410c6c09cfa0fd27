/- Contract of header.Parse's closure: what an attribute does to a header. (printed by wip/genhdrc.py) -/
import Derived.Test.YtngamlikhgilhaaDoorHdrB
import Derived.Deep.MidRow
namespace Go.Proofs.YtngamlikhgilhaaDoor
open Go.RowKit

/-- A header. -/
structure Hd where
  nm : ByteArray
  vl : ByteArray
  dm : ByteArray
  pt : ByteArray
  ex : Int
  se : Bool
  ho : Bool
  st : Int
def hdL (h : Hd) : List Value := [.string h.nm, .string h.vl, .string h.dm, .string h.pt, .int .i64 h.ex, .bool h.se, .bool h.ho, .int .i64 h.st]
def hdA (h : Hd) : Value := .agg (hdL h).toArray
theorem hdL_one (h : Hd) : (hdL h).toArray.all (·.oneCell') = true := all_oneCell_toArray (fun v hv => by
  simp only [hdL, List.mem_cons, List.not_mem_nil, or_false] at hv
  rcases hv with rfl | rfl | rfl | rfl | rfl | rfl | rfl | rfl <;> rfl)
theorem hrange_keep {w w' : World} {b o N : Nat} {cs : List Value} (h : w.rangeAt b o cs) (hb : Below N w w') (hN : b < N) : w'.rangeAt b o cs := fun j v hv => (hb.cell (p := ⟨b, o + j, none⟩) hN).trans (h j v hv)
theorem hthere_keep {w w' : World} {b o N n : Nat} (h : w.there b o n) (hb : Below N w w') (hN : b < N) : w'.there b o n := fun j hj => by
  rw [hb.cell (p := ⟨b, o + j, none⟩) hN, hb.frozen (p := ⟨b, o + j, none⟩) hN]
  exact h j hj
theorem hrange_set {w : World} {b : Nat} {cs : List Value} (h : w.rangeAt b 0 cs) (j : Nat) (v : Value) : (w.setCell ⟨b, j, none⟩ v).rangeAt b 0 (cs.set j v) := fun i x hx => by
  rw [Nat.zero_add]
  by_cases e : j = i
  · subst e
    have hj : j < cs.length := by
      have := (List.getElem?_eq_some_iff.1 hx).1
      simpa using this
    rw [List.getElem?_set_self hj] at hx
    cases hx
    have h1 := h j _ (List.getElem?_eq_getElem hj)
    rw [Nat.zero_add] at h1
    exact World.cell?_setCell_same _ _ _ h1
  · rw [List.getElem?_set_ne e] at hx
    rw [World.cell?_setCell_other _ _ _ _ (by intro h9; injection h9 with _ h8 _; exact e h8)]
    have h1 := h i x hx
    rwa [Nat.zero_add] at h1
theorem hrange_apart {w : World} {b b' o : Nat} {cs : List Value} (h : w.rangeAt b o cs) (hn : b' ≠ b) (j : Nat) (v : Value) : (w.setCell ⟨b', j, none⟩ v).rangeAt b o cs := fun i x hx => by
  rw [World.cell?_setCell_other _ _ _ _ (by intro h9; injection h9 with h8; exact hn h8)]
  exact h i x hx
theorem hthere_set {w : World} {b o n : Nat} (h : w.there b o n) (a : Addr) (v : Value) : (w.setCell a v).there b o n := fun j hj => by
  refine ⟨?_, by rw [World.frozen?_setCell]; exact (h j hj).2⟩
  obtain ⟨u, hu⟩ := Option.isSome_iff_exists.1 (h j hj).1
  by_cases e : a = ⟨b, o + j, none⟩
  · subst e; rw [World.cell?_setCell_same _ _ _ hu]; rfl
  · rw [World.cell?_setCell_other _ _ _ _ e, hu]; rfl
theorem hcellNew (w : World) (cs : List Value) (t : TypeId) (j : Nat) : (w.alloc (.cells cs.toArray t)).cell? ⟨w.heap.size, j, none⟩ = cs[j]? := by
  rw [World.cell?_alloc_new]
  simp
theorem hrange_new (w : World) (cs : List Value) (t : TypeId) : (w.alloc (.cells cs.toArray t)).rangeAt w.heap.size 0 cs := fun j v hv => by rw [Nat.zero_add, hcellNew]; exact hv
theorem hthere_new (w : World) (cs : List Value) (t : TypeId) : (w.alloc (.cells cs.toArray t)).there w.heap.size 0 cs.length := fun j hj => by
  rw [Nat.zero_add, hcellNew, List.getElem?_eq_getElem hj]
  exact ⟨rfl, by go_simp⟩
/-- A header in its cells (B), what a max-age said (B + 1), and the time (n). -/
structure HS (w : World) (B n : Nat) (h : Hd) (ag now : Int) : Prop where
  rd : w.rangeAt B 0 (hdL h)
  wr : w.there B 0 8
  ga : w.cell? ⟨B + 1, 0, none⟩ = some (.int .i64 ag)
  fa : w.frozen? ⟨B + 1, 0, none⟩ = false
  gn : w.cell? ⟨n, 0, none⟩ = some (.int .i64 now)
  lt : n < B
  sz : B + 2 ≤ w.heap.size
theorem HS.set {w : World} {B n : Nat} {h g : Hd} {ag now : Int} (H : HS w B n h ag now) (j : Nat) (v : Value) (hg : (hdL h).set j v = hdL g) : HS (w.setCell ⟨B, j, none⟩ v) B n g ag now :=
  ⟨hg ▸ hrange_set H.rd j v, hthere_set H.wr _ _, by rw [World.cell?_setCell_other _ _ _ _ (by intro h9; injection h9 with h8; omega)]; exact H.ga, by rw [World.frozen?_setCell]; exact H.fa,
   by rw [World.cell?_setCell_other _ _ _ _ (by have := H.lt; intro h9; injection h9 with h8; omega)]; exact H.gn, H.lt, by rw [World.size_setCell]; exact H.sz⟩
theorem HS.aged {w : World} {B n : Nat} {h : Hd} {ag now : Int} (H : HS w B n h ag now) (a : Int) : HS (w.setCell ⟨B + 1, 0, none⟩ (.int .i64 a)) B n h a now :=
  ⟨hrange_apart H.rd (by omega) _ _, hthere_set H.wr _ _, World.cell?_setCell_same _ _ _ H.ga, by rw [World.frozen?_setCell]; exact H.fa,
   by rw [World.cell?_setCell_other _ _ _ _ (by have := H.lt; intro h9; injection h9 with h8; omega)]; exact H.gn, H.lt, by rw [World.size_setCell]; exact H.sz⟩
theorem HS.keep {w w' : World} {B n : Nat} {h : Hd} {ag now : Int} (H : HS w B n h ag now) (hb : Below w.heap.size w w') : HS w' B n h ag now := by
  have h1 := H.sz
  have h2 := H.lt
  exact ⟨hrange_keep H.rd hb (by omega), hthere_keep H.wr hb (by omega), by rw [hb.cell (p := ⟨B + 1, 0, none⟩) (by show B + 1 < _; omega)]; exact H.ga, by rw [hb.frozen (p := ⟨B + 1, 0, none⟩) (by show B + 1 < _; omega)]; exact H.fa,
    by rw [hb.cell (p := ⟨n, 0, none⟩) (by show n < _; omega)]; exact H.gn, h2, Nat.le_trans h1 hb.size⟩
theorem HS.cells {w : World} {B n : Nat} {h : Hd} {ag now : Int} (H : HS w B n h ag now) : w.cell? ⟨B, 0, none⟩ = some (.string h.nm) ∧ w.cell? ⟨B, 1, none⟩ = some (.string h.vl) ∧ w.cell? ⟨B, 2, none⟩ = some (.string h.dm) ∧ w.cell? ⟨B, 3, none⟩ = some (.string h.pt) ∧
   w.cell? ⟨B, 4, none⟩ = some (.int .i64 h.ex) ∧ w.cell? ⟨B, 5, none⟩ = some (.bool h.se) ∧ w.cell? ⟨B, 6, none⟩ = some (.bool h.ho) ∧ w.cell? ⟨B, 7, none⟩ = some (.int .i64 h.st) :=
  ⟨H.rd 0 _ rfl, H.rd 1 _ rfl, H.rd 2 _ rfl, H.rd 3 _ rfl, H.rd 4 _ rfl, H.rd 5 _ rfl, H.rd 6 _ rfl, H.rd 7 _ rfl⟩
theorem HS.fzs {w : World} {B n : Nat} {h : Hd} {ag now : Int} (H : HS w B n h ag now) : w.frozen? ⟨B, 0, none⟩ = false ∧ w.frozen? ⟨B, 1, none⟩ = false ∧ w.frozen? ⟨B, 2, none⟩ = false ∧ w.frozen? ⟨B, 3, none⟩ = false ∧ w.frozen? ⟨B, 4, none⟩ = false ∧ w.frozen? ⟨B, 5, none⟩ = false ∧ w.frozen? ⟨B, 6, none⟩ = false ∧ w.frozen? ⟨B, 7, none⟩ = false :=
  ⟨(H.wr 0 (by decide)).2, (H.wr 1 (by decide)).2, (H.wr 2 (by decide)).2, (H.wr 3 (by decide)).2, (H.wr 4 (by decide)).2, (H.wr 5 (by decide)).2, (H.wr 6 (by decide)).2, (H.wr 7 (by decide)).2⟩
/-- What a date tells. -/
def cookO (s : ByteArray) : Option Int := if (foundL (wordsS s)).allB = true ∧ 1601 ≤ cent (foundL (wordsS s)).y ∧ vclk (cent (foundL (wordsS s)).y) (foundL (wordsS s)).m (foundL (wordsS s)).d (foundL (wordsS s)).h (foundL (wordsS s)).n (foundL (wordsS s)).s then some (secs (cent (foundL (wordsS s)).y) (foundL (wordsS s)).m (foundL (wordsS s)).d (foundL (wordsS s)).h (foundL (wordsS s)).n (foundL (wordsS s)).s) else none
theorem cook_unf (s : ByteArray) : cookieV s = unfV (cookO s) := by
  unfold cookieV cookO fdV
  split <;> rfl
def clampN (t : Int) : Int := min (max t 1) 253402300799
/-- Which attribute a name tells. -/
def eXP : ByteArray := ⟨#[101, 120, 112, 105, 114, 101, 115]⟩
def aGE : ByteArray := ⟨#[109, 97, 120, 45, 97, 103, 101]⟩
def dOM : ByteArray := ⟨#[100, 111, 109, 97, 105, 110]⟩
def pTH : ByteArray := ⟨#[112, 97, 116, 104]⟩
def sEC : ByteArray := ⟨#[115, 101, 99, 117, 114, 101]⟩
def hTO : ByteArray := ⟨#[104, 116, 116, 112, 111, 110, 108, 121]⟩
def sST : ByteArray := ⟨#[115, 97, 109, 101, 115, 105, 116, 101]⟩
def kindN (x : ByteArray) : Nat := if lowS x = eXP then 1 else if lowS x = aGE then 2 else if lowS x = dOM then 3 else if lowS x = pTH then 4 else if lowS x = sEC then 5 else if lowS x = hTO then 6 else if lowS x = sST then 7 else 0
/-- A domain's value: in small letters, without a dot ahead. -/
def domS (v : ByteArray) : ByteArray := ⟨(Lib.trimPrefix (lowS v).data.toList [46]).toArray⟩
def attK (k : Nat) (h : Hd) (v : ByteArray) : Hd :=
  match k with
  | 1 => match cookO v with
    | some t => { h with ex := clampN t }
    | none => h
  | 3 => if domS v = ⟨#[]⟩ then h else { h with dm := domS v }
  | 4 => { h with pt := if preB v ⟨#[47]⟩ = true then v else ⟨#[]⟩ }
  | 5 => { h with se := true }
  | 6 => { h with ho := true }
  | 7 => { h with st := siteN v }
  | _ => h
def agK (k : Nat) (ag now : Int) (v : ByteArray) : Int := if k = 2 then (if ageN v = 0 then 1 else if 0 < ageN v then min (now + ageN v) 253402300799 else ag) else ag
theorem libTP_any (s : ByteArray) (w : World) : Calls Tryd.prog 15 #[.string s, .string ⟨#[46]⟩] w fun e w' => e = .returned (.string ⟨(Lib.trimPrefix s.data.toList [46]).toArray⟩) ∧ w = w' :=
  (Any.strings_TrimPrefix Tryd.lays101 s ⟨#[46]⟩ w).mono (by rintro e w' ⟨rfl, rfl⟩; exact ⟨rfl, rfl⟩)
def preL (v : ByteArray) : Bool := Lib.hasPrefix v.data.toList [47]
theorem libHP_any (s : ByteArray) (w : World) : Calls Tryd.prog 16 #[.string s, .string ⟨#[47]⟩] w fun e w' => e = .returned (.bool (preL s)) ∧ w = w' :=
  (Any.strings_HasPrefix Tryd.lays99 s ⟨#[47]⟩ w).mono (by rintro e w' ⟨rfl, rfl⟩; exact ⟨rfl, rfl⟩)
theorem pre_L (v : ByteArray) : preB v ⟨#[47]⟩ = preL v := by
  unfold preB preL
  rw [← Lib.hasPrefix_raw (p := ⟨#[47]⟩)]
theorem ageN_bd (v : ByteArray) : -1 ≤ ageN v ∧ ageN v ≤ 999999999999 := by
  unfold ageN ageD
  split
  · omega
  next h1 =>
  split
  · omega
  split
  · omega
  next h2 h3 =>
  have hd : allD (bs (cutS v ⟨#[45]⟩)) = true := by
    cases h : allD (bs (cutS v ⟨#[45]⟩))
    · exact absurd (Or.inr h) h1
    · rfl
  have h4 := decV_bd _ (noz_allD _ hd)
  have h5 : (10 : Int) ^ (bs (nozS (cutS v ⟨#[45]⟩))).length ≤ 10 ^ 12 := by
    rw [← size_bs]
    exact_mod_cast Nat.pow_le_pow_right (by decide : 0 < 10) (by omega)
  have h6 : (10 : Int) ^ 12 = 1000000000000 := by decide
  omega
def AttP (k : Nat) (h : Hd) (ag now : Int) (v : ByteArray) (B n : Nat) (w : World) (e : Ending) (w' : World) : Prop := e = .returned (.tuple #[]) ∧ HS w' B n (attK k h v) (agK k ag now v) now ∧ Below B w w'
set_option maxRecDepth 100000 in
theorem att_5 (x v : ByteArray) (w : World) (B n : Nat) (h : Hd) (ag now : Int) (hx : x.size ≤ 9223372036854775807) (_hv : v.size ≤ 9223372036854775806) (H : HS w B n h ag now) (hlow : lowS x = ⟨#[115, 101, 99, 117, 114, 101]⟩) :
    Calls Tryd.prog 11 #[.string x, .string v, .pointer (some ⟨B, 0, none⟩), .pointer (some ⟨B + 1, 0, none⟩), .pointer (some ⟨n, 0, none⟩)] w (AttP 5 h ag now v B n w) := by
  have hsz := H.sz
  have HL := Lib.hid hlow
  clear hlow
  have H0 := Lib.hid H
  clear H
  go_enter Tryd.func11, Tryd.ntmps11
  go_wp2_with fail
  refine (lower_any x _ hx).mono ?_
  rintro e w1 ⟨rfl, hb1⟩
  rw [HL.out]
  have H1 := Lib.hid (H0.out.keep hb1)
  have HB := Lib.hid (hb1.mono (show B ≤ _ by omega))
  clear H0 hb1
  obtain ⟨c0, c1, c2, c3, c4, c5, c6, c7⟩ := H1.out.cells
  obtain ⟨f0, f1, f2, f3, f4, f5, f6, f7⟩ := H1.out.fzs
  have ga := H1.out.ga
  have fa := H1.out.fa
  have gn := H1.out.gn
  go_wp2_with fail
  go_end0
  exact ⟨rfl, H1.out.set 5 _ rfl, HB.out.setCell (Nat.le_refl _) _⟩
set_option maxRecDepth 100000 in
theorem att_6 (x v : ByteArray) (w : World) (B n : Nat) (h : Hd) (ag now : Int) (hx : x.size ≤ 9223372036854775807) (_hv : v.size ≤ 9223372036854775806) (H : HS w B n h ag now) (hlow : lowS x = ⟨#[104, 116, 116, 112, 111, 110, 108, 121]⟩) :
    Calls Tryd.prog 11 #[.string x, .string v, .pointer (some ⟨B, 0, none⟩), .pointer (some ⟨B + 1, 0, none⟩), .pointer (some ⟨n, 0, none⟩)] w (AttP 6 h ag now v B n w) := by
  have hsz := H.sz
  have HL := Lib.hid hlow
  clear hlow
  have H0 := Lib.hid H
  clear H
  go_enter Tryd.func11, Tryd.ntmps11
  go_wp2_with fail
  refine (lower_any x _ hx).mono ?_
  rintro e w1 ⟨rfl, hb1⟩
  rw [HL.out]
  have H1 := Lib.hid (H0.out.keep hb1)
  have HB := Lib.hid (hb1.mono (show B ≤ _ by omega))
  clear H0 hb1
  obtain ⟨c0, c1, c2, c3, c4, c5, c6, c7⟩ := H1.out.cells
  obtain ⟨f0, f1, f2, f3, f4, f5, f6, f7⟩ := H1.out.fzs
  have ga := H1.out.ga
  have fa := H1.out.fa
  have gn := H1.out.gn
  go_wp2_with fail
  go_end0
  exact ⟨rfl, H1.out.set 6 _ rfl, HB.out.setCell (Nat.le_refl _) _⟩
set_option maxRecDepth 100000 in
theorem att_7 (x v : ByteArray) (w : World) (B n : Nat) (h : Hd) (ag now : Int) (hx : x.size ≤ 9223372036854775807) (hv : v.size ≤ 9223372036854775806) (H : HS w B n h ag now) (hlow : lowS x = ⟨#[115, 97, 109, 101, 115, 105, 116, 101]⟩) :
    Calls Tryd.prog 11 #[.string x, .string v, .pointer (some ⟨B, 0, none⟩), .pointer (some ⟨B + 1, 0, none⟩), .pointer (some ⟨n, 0, none⟩)] w (AttP 7 h ag now v B n w) := by
  have hsz := H.sz
  have HL := Lib.hid hlow
  clear hlow
  have H0 := Lib.hid H
  clear H
  go_enter Tryd.func11, Tryd.ntmps11
  go_wp2_with fail
  refine (lower_any x _ hx).mono ?_
  rintro e w1 ⟨rfl, hb1⟩
  rw [HL.out]
  have H1 := Lib.hid (H0.out.keep hb1)
  have HB := Lib.hid (hb1.mono (show B ≤ _ by omega))
  clear H0 hb1
  go_wp2_with fail
  refine (site_any v _ (by omega)).mono ?_
  rintro e w2 ⟨rfl, hb2⟩
  have hs1 := H1.out.sz
  have H2 := Lib.hid (H1.out.keep hb2)
  have HC := Lib.hid (HB.out.trans (hb2.mono (show B ≤ _ by omega)))
  clear HB H1 hb2
  obtain ⟨c0, c1, c2, c3, c4, c5, c6, c7⟩ := H2.out.cells
  obtain ⟨f0, f1, f2, f3, f4, f5, f6, f7⟩ := H2.out.fzs
  have ga := H2.out.ga
  have fa := H2.out.fa
  have gn := H2.out.gn
  go_wp2_with fail
  go_end0
  exact ⟨rfl, H2.out.set 7 _ rfl, HC.out.setCell (Nat.le_refl _) _⟩
set_option maxRecDepth 100000 in
theorem att_4 (x v : ByteArray) (w : World) (B n : Nat) (h : Hd) (ag now : Int) (hx : x.size ≤ 9223372036854775807) (_hv : v.size ≤ 9223372036854775806) (H : HS w B n h ag now) (hlow : lowS x = ⟨#[112, 97, 116, 104]⟩) :
    Calls Tryd.prog 11 #[.string x, .string v, .pointer (some ⟨B, 0, none⟩), .pointer (some ⟨B + 1, 0, none⟩), .pointer (some ⟨n, 0, none⟩)] w (AttP 4 h ag now v B n w) := by
  have HP := Lib.hid (pre_L v)
  have hsz := H.sz
  have HL := Lib.hid hlow
  clear hlow
  have H0 := Lib.hid H
  clear H
  cases hp : preL v
  all_goals
    have HQ := Lib.hid hp
    clear hp
    go_enter Tryd.func11, Tryd.ntmps11
    go_wp2_with fail
    refine (lower_any x _ hx).mono ?_
    rintro e w1 ⟨rfl, hb1⟩
    rw [HL.out]
    have H1 := Lib.hid (H0.out.keep hb1)
    have HB := Lib.hid (hb1.mono (show B ≤ _ by omega))
    clear H0 hb1
    obtain ⟨c0, c1, c2, c3, c4, c5, c6, c7⟩ := H1.out.cells
    obtain ⟨f0, f1, f2, f3, f4, f5, f6, f7⟩ := H1.out.fzs
    have ga := H1.out.ga
    have fa := H1.out.fa
    have gn := H1.out.gn
    go_wp2_with fail
    refine (libHP_any v _).mono ?_
    rintro e w2 ⟨rfl, rfl⟩
    rw [HQ.out]
    go_wp2_with fail
    go_end0
  · refine ⟨rfl, ?_, HB.out.setCell (Nat.le_refl _) _⟩
    have h9 := H1.out.set (g := { h with pt := ⟨#[]⟩ }) 3 _ rfl
    unfold attK
    rw [HP.out, HQ.out]
    exact h9
  · refine ⟨rfl, ?_, (HB.out.setCell (Nat.le_refl _) _).setCell (Nat.le_refl _) _⟩
    have h9 := (H1.out.set (g := { h with pt := ⟨#[]⟩ }) 3 _ rfl).set (g := { h with pt := v }) 3 _ rfl
    unfold attK
    rw [HP.out, HQ.out]
    exact h9
set_option maxRecDepth 100000 in
theorem att_3 (x v : ByteArray) (w : World) (B n : Nat) (h : Hd) (ag now : Int) (hx : x.size ≤ 9223372036854775807) (hv : v.size ≤ 9223372036854775806) (H : HS w B n h ag now) (hlow : lowS x = ⟨#[100, 111, 109, 97, 105, 110]⟩) :
    Calls Tryd.prog 11 #[.string x, .string v, .pointer (some ⟨B, 0, none⟩), .pointer (some ⟨B + 1, 0, none⟩), .pointer (some ⟨n, 0, none⟩)] w (AttP 3 h ag now v B n w) := by
  have hsz := H.sz
  have HL := Lib.hid hlow
  clear hlow
  have H0 := Lib.hid H
  clear H
  have hz : (lowS v).size ≤ 9223372036854775807 := by unfold lowS; rw [size_mk, List.length_map, ← size_bs]; omega
  by_cases hd : domS v = ⟨#[]⟩
  · have HD := Lib.hid (show (⟨(Lib.trimPrefix (lowS v).data.toList [46]).toArray⟩ : ByteArray) = ⟨#[]⟩ from hd)
    have HE := Lib.hid hd
    clear hd
    go_enter Tryd.func11, Tryd.ntmps11
    go_wp2_with fail
    refine (lower_any x _ hx).mono ?_
    rintro e w1 ⟨rfl, hb1⟩
    rw [HL.out]
    have H1 := Lib.hid (H0.out.keep hb1)
    have HB := Lib.hid (hb1.mono (show B ≤ _ by omega))
    clear H0 hb1
    go_wp2_with fail
    refine (lower_any v _ (by omega)).mono ?_
    rintro e w2 ⟨rfl, hb2⟩
    have hs1 := H1.out.sz
    have H2 := Lib.hid (H1.out.keep hb2)
    have HC := Lib.hid (HB.out.trans (hb2.mono (show B ≤ _ by omega)))
    clear HB H1 hb2
    go_wp2_with fail
    refine (libTP_any (lowS v) _).mono ?_
    rintro e w3 ⟨rfl, rfl⟩
    rw [HD.out]
    go_wp2_with fail
    go_end0
    refine ⟨rfl, ?_, HC.out⟩
    unfold attK
    rw [if_pos HE.out]
    exact H2.out
  · have q := str_ne0 hd
    have HD := Lib.hid (show (⟨(Lib.trimPrefix (lowS v).data.toList [46]).toArray⟩ : ByteArray) = domS v from rfl)
    have HE := Lib.hid hd
    clear hd
    go_enter Tryd.func11, Tryd.ntmps11
    go_wp2_with fail
    refine (lower_any x _ hx).mono ?_
    rintro e w1 ⟨rfl, hb1⟩
    rw [HL.out]
    have H1 := Lib.hid (H0.out.keep hb1)
    have HB := Lib.hid (hb1.mono (show B ≤ _ by omega))
    clear H0 hb1
    go_wp2_with fail
    refine (lower_any v _ (by omega)).mono ?_
    rintro e w2 ⟨rfl, hb2⟩
    have hs1 := H1.out.sz
    have H2 := Lib.hid (H1.out.keep hb2)
    have HC := Lib.hid (HB.out.trans (hb2.mono (show B ≤ _ by omega)))
    clear HB H1 hb2
    go_wp2_with fail
    refine (libTP_any (lowS v) _).mono ?_
    rintro e w3 ⟨rfl, rfl⟩
    rw [HD.out]
    obtain ⟨c0, c1, c2, c3, c4, c5, c6, c7⟩ := H2.out.cells
    obtain ⟨f0, f1, f2, f3, f4, f5, f6, f7⟩ := H2.out.fzs
    have ga := H2.out.ga
    have fa := H2.out.fa
    have gn := H2.out.gn
    go_wp2_with fail
    go_end0
    refine ⟨rfl, ?_, HC.out.setCell (Nat.le_refl _) _⟩
    have h9 := H2.out.set (g := { h with dm := domS v }) 2 _ rfl
    unfold attK
    rw [if_neg HE.out]
    exact h9
set_option maxRecDepth 100000 in
theorem att_1 (x v : ByteArray) (w : World) (B n : Nat) (h : Hd) (ag now : Int) (hx : x.size ≤ 9223372036854775807) (hv : v.size ≤ 9223372036854775806) (H : HS w B n h ag now) (hlow : lowS x = ⟨#[101, 120, 112, 105, 114, 101, 115]⟩) :
    Calls Tryd.prog 11 #[.string x, .string v, .pointer (some ⟨B, 0, none⟩), .pointer (some ⟨B + 1, 0, none⟩), .pointer (some ⟨n, 0, none⟩)] w (AttP 1 h ag now v B n w) := by
  have hsz := H.sz
  have HL := Lib.hid hlow
  clear hlow
  have H0 := Lib.hid H
  clear H
  cases ho : cookO v with
  | none =>
    have HV := Lib.hid (show cookieV v = .tuple #[.int .i64 0, .bool false] by rw [cook_unf, ho]; rfl)
    have HO := Lib.hid ho
    clear ho
    go_enter Tryd.func11, Tryd.ntmps11
    go_wp2_with fail
    refine (lower_any x _ hx).mono ?_
    rintro e w1 ⟨rfl, hb1⟩
    rw [HL.out]
    have H1 := Lib.hid (H0.out.keep hb1)
    have HB := Lib.hid (hb1.mono (show B ≤ _ by omega))
    clear H0 hb1
    go_wp2_with fail
    refine (cookie_any v _ hv).mono ?_
    rintro e w2 ⟨rfl, hb2⟩
    rw [HV.out]
    have hs1 := H1.out.sz
    have H2 := Lib.hid (H1.out.keep hb2)
    have HC := Lib.hid (HB.out.trans (hb2.mono (show B ≤ _ by omega)))
    clear HB H1 hb2
    go_wp2_with fail
    go_end0
    refine ⟨rfl, ?_, HC.out⟩
    unfold attK
    rw [HO.out]
    exact H2.out
  | some t =>
    have HV := Lib.hid (show cookieV v = .tuple #[.int .i64 t, .bool true] by rw [cook_unf, ho]; rfl)
    have HO := Lib.hid ho
    clear ho
    go_enter Tryd.func11, Tryd.ntmps11
    go_wp2_with fail
    refine (lower_any x _ hx).mono ?_
    rintro e w1 ⟨rfl, hb1⟩
    rw [HL.out]
    have H1 := Lib.hid (H0.out.keep hb1)
    have HB := Lib.hid (hb1.mono (show B ≤ _ by omega))
    clear H0 hb1
    go_wp2_with fail
    refine (cookie_any v _ hv).mono ?_
    rintro e w2 ⟨rfl, hb2⟩
    rw [HV.out]
    have hs1 := H1.out.sz
    have H2 := Lib.hid (H1.out.keep hb2)
    have HC := Lib.hid (HB.out.trans (hb2.mono (show B ≤ _ by omega)))
    clear HB H1 hb2
    obtain ⟨c0, c1, c2, c3, c4, c5, c6, c7⟩ := H2.out.cells
    obtain ⟨f0, f1, f2, f3, f4, f5, f6, f7⟩ := H2.out.fzs
    have ga := H2.out.ga
    have fa := H2.out.fa
    have gn := H2.out.gn
    go_wp2_with fail
    go_end0
    refine ⟨rfl, ?_, HC.out.setCell (Nat.le_refl _) _⟩
    have h9 := H2.out.set (g := { h with ex := clampN t }) 4 _ rfl
    unfold attK
    rw [HO.out]
    exact h9
set_option maxRecDepth 100000 in
theorem att_2 (x v : ByteArray) (w : World) (B n : Nat) (h : Hd) (ag now : Int) (hx : x.size ≤ 9223372036854775807) (hv : v.size ≤ 9223372036854775806) (H : HS w B n h ag now) (hlow : lowS x = ⟨#[109, 97, 120, 45, 97, 103, 101]⟩) (hnow : 0 ≤ now ∧ now ≤ 253402300799) :
    Calls Tryd.prog 11 #[.string x, .string v, .pointer (some ⟨B, 0, none⟩), .pointer (some ⟨B + 1, 0, none⟩), .pointer (some ⟨n, 0, none⟩)] w (AttP 2 h ag now v B n w) := by
  have hsz := H.sz
  have HL := Lib.hid hlow
  clear hlow
  have H0 := Lib.hid H
  clear H
  have hy := ageN_bd v
  by_cases h0 : ageN v = 0
  · have HY := Lib.hid h0
    have HK := Lib.hid (show agK 2 ag now v = 1 by unfold agK; rw [if_pos rfl, if_pos h0])
    clear h0 hy
    go_enter Tryd.func11, Tryd.ntmps11
    go_wp2_with fail
    refine (lower_any x _ hx).mono ?_
    rintro e w1 ⟨rfl, hb1⟩
    rw [HL.out]
    have H1 := Lib.hid (H0.out.keep hb1)
    have HB := Lib.hid (hb1.mono (show B ≤ _ by omega))
    clear H0 hb1
    go_wp2_with fail
    refine (age_any v _ (by omega)).mono ?_
    rintro e w2 ⟨rfl, hb2⟩
    rw [HY.out]
    have hs1 := H1.out.sz
    have H2 := Lib.hid (H1.out.keep hb2)
    have HC := Lib.hid (HB.out.trans (hb2.mono (show B ≤ _ by omega)))
    clear HB H1 hb2
    obtain ⟨c0, c1, c2, c3, c4, c5, c6, c7⟩ := H2.out.cells
    obtain ⟨f0, f1, f2, f3, f4, f5, f6, f7⟩ := H2.out.fzs
    have ga := H2.out.ga
    have fa := H2.out.fa
    have gn := H2.out.gn
    go_wp2_with fail
    go_end0
    refine ⟨rfl, ?_, HC.out.setCell (Nat.le_succ _) _⟩
    rw [HK.out]
    exact H2.out.aged 1
  have hk : agK 2 ag now v = if 0 < ageN v then min (now + ageN v) 253402300799 else ag := by unfold agK; rw [if_pos rfl, if_neg h0]
  by_cases h1 : 0 < ageN v
  · have HK := Lib.hid (hk.trans (if_pos h1))
    clear hk
    have q0 : (ageN v == 0) = false := beq_eq_false_iff_ne.2 h0
    clear h0
    go_enter Tryd.func11, Tryd.ntmps11
    go_wp2_with fail
    refine (lower_any x _ hx).mono ?_
    rintro e w1 ⟨rfl, hb1⟩
    rw [HL.out]
    have H1 := Lib.hid (H0.out.keep hb1)
    have HB := Lib.hid (hb1.mono (show B ≤ _ by omega))
    clear H0 hb1
    go_wp2_with fail
    refine (age_any v _ (by omega)).mono ?_
    rintro e w2 ⟨rfl, hb2⟩
    have hs1 := H1.out.sz
    have H2 := Lib.hid (H1.out.keep hb2)
    have HC := Lib.hid (HB.out.trans (hb2.mono (show B ≤ _ by omega)))
    clear HB H1 hb2
    obtain ⟨c0, c1, c2, c3, c4, c5, c6, c7⟩ := H2.out.cells
    obtain ⟨f0, f1, f2, f3, f4, f5, f6, f7⟩ := H2.out.fzs
    have ga := H2.out.ga
    have fa := H2.out.fa
    have gn := H2.out.gn
    go_wp2_with fail
    go_end0
    refine ⟨rfl, ?_, HC.out.setCell (Nat.le_succ _) _⟩
    rw [HK.out]
    exact H2.out.aged _
  · have HK := Lib.hid (hk.trans (if_neg h1))
    clear hk
    have q0 : (ageN v == 0) = false := beq_eq_false_iff_ne.2 h0
    clear h0
    go_enter Tryd.func11, Tryd.ntmps11
    go_wp2_with fail
    refine (lower_any x _ hx).mono ?_
    rintro e w1 ⟨rfl, hb1⟩
    rw [HL.out]
    have H1 := Lib.hid (H0.out.keep hb1)
    have HB := Lib.hid (hb1.mono (show B ≤ _ by omega))
    clear H0 hb1
    go_wp2_with fail
    refine (age_any v _ (by omega)).mono ?_
    rintro e w2 ⟨rfl, hb2⟩
    have hs1 := H1.out.sz
    have H2 := Lib.hid (H1.out.keep hb2)
    have HC := Lib.hid (HB.out.trans (hb2.mono (show B ≤ _ by omega)))
    clear HB H1 hb2
    obtain ⟨c0, c1, c2, c3, c4, c5, c6, c7⟩ := H2.out.cells
    obtain ⟨f0, f1, f2, f3, f4, f5, f6, f7⟩ := H2.out.fzs
    have ga := H2.out.ga
    have fa := H2.out.fa
    have gn := H2.out.gn
    go_wp2_with fail
    go_end0
    refine ⟨rfl, ?_, HC.out⟩
    rw [HK.out]
    exact H2.out
set_option maxRecDepth 100000 in
theorem att_0 (x v : ByteArray) (w : World) (B n : Nat) (h : Hd) (ag now : Int) (hx : x.size ≤ 9223372036854775807) (_hv : v.size ≤ 9223372036854775806) (H : HS w B n h ag now) (hlow : kindN x = 0) :
    Calls Tryd.prog 11 #[.string x, .string v, .pointer (some ⟨B, 0, none⟩), .pointer (some ⟨B + 1, 0, none⟩), .pointer (some ⟨n, 0, none⟩)] w (AttP 0 h ag now v B n w) := by
  have hsz := H.sz
  have H0 := Lib.hid H
  clear H
  unfold kindN at hlow
  by_cases e1 : lowS x = eXP
  · rw [if_pos e1] at hlow; cases hlow
  by_cases e2 : lowS x = aGE
  · rw [if_neg e1, if_pos e2] at hlow; cases hlow
  by_cases e3 : lowS x = dOM
  · rw [if_neg e1, if_neg e2, if_pos e3] at hlow; cases hlow
  by_cases e4 : lowS x = pTH
  · rw [if_neg e1, if_neg e2, if_neg e3, if_pos e4] at hlow; cases hlow
  by_cases e5 : lowS x = sEC
  · rw [if_neg e1, if_neg e2, if_neg e3, if_neg e4, if_pos e5] at hlow; cases hlow
  by_cases e6 : lowS x = hTO
  · rw [if_neg e1, if_neg e2, if_neg e3, if_neg e4, if_neg e5, if_pos e6] at hlow; cases hlow
  by_cases e7 : lowS x = sST
  · rw [if_neg e1, if_neg e2, if_neg e3, if_neg e4, if_neg e5, if_neg e6, if_pos e7] at hlow; cases hlow
  have q1 := str_neL (l := [101, 120, 112, 105, 114, 101, 115]) e1
  have q2 := str_neL (l := [109, 97, 120, 45, 97, 103, 101]) e2
  have q3 := str_neL (l := [100, 111, 109, 97, 105, 110]) e3
  have q4 := str_neL (l := [112, 97, 116, 104]) e4
  have q5 := str_neL (l := [115, 101, 99, 117, 114, 101]) e5
  have q6 := str_neL (l := [104, 116, 116, 112, 111, 110, 108, 121]) e6
  have q7 := str_neL (l := [115, 97, 109, 101, 115, 105, 116, 101]) e7
  clear e1 e2 e3 e4 e5 e6 e7 hlow
  go_enter Tryd.func11, Tryd.ntmps11
  go_wp2_with fail
  refine (lower_any x _ hx).mono ?_
  rintro e w1 ⟨rfl, hb1⟩
  have H1 := Lib.hid (H0.out.keep hb1)
  have HB := Lib.hid (hb1.mono (show B ≤ _ by omega))
  clear H0 hb1
  go_wp2_with fail
  go_end0
  exact ⟨rfl, H1.out, HB.out⟩
theorem kind_low {x : ByteArray} {k : Nat} (h : kindN x = k) : (k = 1 → lowS x = eXP) ∧ (k = 2 → lowS x = aGE) ∧ (k = 3 → lowS x = dOM) ∧ (k = 4 → lowS x = pTH) ∧ (k = 5 → lowS x = sEC) ∧ (k = 6 → lowS x = hTO) ∧ (k = 7 → lowS x = sST) ∧ k ≤ 7 := by
  unfold kindN at h
  subst h
  split
  · exact ⟨fun _ => ‹_›, by omega, by omega, by omega, by omega, by omega, by omega, by omega⟩
  split
  · exact ⟨by omega, fun _ => ‹_›, by omega, by omega, by omega, by omega, by omega, by omega⟩
  split
  · exact ⟨by omega, by omega, fun _ => ‹_›, by omega, by omega, by omega, by omega, by omega⟩
  split
  · exact ⟨by omega, by omega, by omega, fun _ => ‹_›, by omega, by omega, by omega, by omega⟩
  split
  · exact ⟨by omega, by omega, by omega, by omega, fun _ => ‹_›, by omega, by omega, by omega⟩
  split
  · exact ⟨by omega, by omega, by omega, by omega, by omega, fun _ => ‹_›, by omega, by omega⟩
  split
  · exact ⟨by omega, by omega, by omega, by omega, by omega, by omega, fun _ => ‹_›, by omega⟩
  · exact ⟨by omega, by omega, by omega, by omega, by omega, by omega, by omega, by omega⟩
/-- An attribute's doing. -/
theorem att_any (x v : ByteArray) (w : World) (B n : Nat) (h : Hd) (ag now : Int) (hx : x.size ≤ 9223372036854775807) (hv : v.size ≤ 9223372036854775806) (H : HS w B n h ag now) (hnow : 0 ≤ now ∧ now ≤ 253402300799) :
    Calls Tryd.prog 11 #[.string x, .string v, .pointer (some ⟨B, 0, none⟩), .pointer (some ⟨B + 1, 0, none⟩), .pointer (some ⟨n, 0, none⟩)] w (AttP (kindN x) h ag now v B n w) := by
  have hk := kind_low (x := x) (k := kindN x) rfl
  obtain ⟨h1, h2, h3, h4, h5, h6, h7, h8⟩ := hk
  generalize hkk : kindN x = k at *
  match k, h8 with
  | 0, _ => exact att_0 x v w B n h ag now hx hv H hkk
  | 1, _ => exact att_1 x v w B n h ag now hx hv H (h1 rfl)
  | 2, _ => exact att_2 x v w B n h ag now hx hv H (h2 rfl) hnow
  | 3, _ => exact att_3 x v w B n h ag now hx hv H (h3 rfl)
  | 4, _ => exact att_4 x v w B n h ag now hx hv H (h4 rfl)
  | 5, _ => exact att_5 x v w B n h ag now hx hv H (h5 rfl)
  | 6, _ => exact att_6 x v w B n h ag now hx hv H (h6 rfl)
  | 7, _ => exact att_7 x v w B n h ag now hx hv H (h7 rfl)
end Go.Proofs.YtngamlikhgilhaaDoor
