/- Contracts: how many points a polynomial has; whether numbers differ. Contracts: how many shares may be wrong; the values of shares at a place; whether shares are good in a plan. -/
import Derived.Test.YtjfphobfikadlaaDoorN15
import Derived.Deep.RegionHeld3
import Derived.Test.YtjfphobfikadlaaDoorN08
import Derived.Test.YtjfphobfikadlaaDoorN07
import Derived.Test.YtjfphobfikadlaaDoorN06
set_option linter.unusedVariables false
set_option linter.unusedSimpArgs false
namespace Go.Proofs.YtjfphobfikadlaaDoor
open Go.RowKit Num

set_option maxRecDepth 100000 in
set_option maxHeartbeats 1000000 in
theorem c_agree (p : Nat) (vf vx vy : Value) (F X Y : List Int) (S T U : Nat → Prop) (w : World) (hp1 : 1 ≤ p) (h2 : p ≤ 1073741824)
    (hf : IntsAt w S vf F) (hS : ∀ b, S b → b < w.heap.size) (hx : IntsAt w T vx X) (hT : ∀ b, T b → b < w.heap.size) (hy : IntsAt w U vy Y) (hU : ∀ b, U b → b < w.heap.size)
    (lf : F.length ≤ 10000) (lx : X.length ≤ 1000) (ly : Y.length = X.length) (ff : InF p F) (fx : InF p X) :
    Calls Tryd.prog 47 #[.int .i64 (p : Int), vf, vx, vy] w (IntB (agr p F (fOf X) (fOf Y) X.length : Int) w) := by
  obtain ⟨A, n, ca, rfl, hn, hnc, hcc⟩ := id hx
  obtain ⟨B, m, cb, rfl, hm, hmc, hcd⟩ := id hy
  have hmn : m = n := by omega
  subst hmn
  have hn1 : m ≤ 1000 := by omega
  have hle := agr_le p F (fOf X) (fOf Y)
  have HF := Lib.hid hf
  have HX := Lib.hid hx
  have HY := Lib.hid hy
  have HN := Lib.hid hn
  have HLE := Lib.hid hle
  clear hf hx hy hn hm hcc hcd ly hle
  go_enter Tryd.func47, Tryd.ntmps47
  go_wp2_with fail
  go_loopw [14, 9] (fun t c wr => ∃ i : Nat, i ≤ m ∧ t = .int .i64 i ∧ c = .int .i64 (agr p F (fOf X) (fOf Y) i : Int) ∧ Below w.heap.size w wr) (fun t _ _ => m - (intOf t).toNat)
  case atStart => exact ⟨0, by omega, rfl, rfl, Below.refl _ _⟩
  case round =>
    obtain ⟨i, him, rfl, rfl, hbl⟩ := hrel
    have HBL := Lib.hid hbl
    by_cases hlt : i < m
    · have hir := HX.out.keep (w' := wr) fun q hq => hbl.block q (hT q hq)
      obtain ⟨A', n', c', hv', e2, e3, hcs⟩ := hir
      injection hv' with v1 v2 v3
      subst v1 v2 v3
      obtain ⟨ba, oa, rfl, hTa, hca⟩ := hcs (by omega)
      have cka := hca i hlt
      have fai := fx i (by have := HN.out; omega)
      have hjr := HY.out.keep (w' := wr) fun q hq => hbl.block q (hU q hq)
      obtain ⟨B', m', c'', hv', e2', e3', hcs'⟩ := hjr
      injection hv' with v1 v2 v3
      subst v1 v2 v3
      obtain ⟨bb, ob, rfl, hUb, hcb⟩ := hcs' (by omega)
      have ckb := hcb i hlt
      have hbb : bb < wr.heap.size := by have := hU bb hUb; have := hbl.size; omega
      have hag : agr p F (fOf X) (fOf Y) (i + 1) = agr p F (fOf X) (fOf Y) i + (if ev F (fOf X i) % (p : Int) = fOf Y i then 1 else 0) := rfl
      have hvx : X.getD i 0 = fOf X i := rfl
      have hvy : Y.getD i 0 = fOf Y i := rfl
      rw [hvx] at cka fai
      rw [hvy] at ckb
      have hle := HLE.out i
      generalize fOf X i = x at *
      generalize fOf Y i = y at *
      have hev := fun (W : World) (hb : Below w.heap.size w W) => p_Eval p x vf F S W hp1 h2 (by omega) (by omega) (HF.out.keep fun q hq => hb.block q (hS q hq)) (fun q hq => by have := hS q hq; have := hb.size; omega) (by omega) ff
      generalize ev F x % (p : Int) = ex at *
      have HEV := Lib.hid hev
      have HAG := Lib.hid hag
      have qi : (i : Int) < (m : Int) := by omega
      have qi0 : (0 : Int) ≤ (i : Int) := by omega
      have HBD := HBL.out.drew
      have hbbw : w.heap.size ≤ wr.heap.size := hbl.size
      have ckbd : wr.drew.cell? ⟨bb, ob + i, none⟩ = some (.int .i64 y) := ckb
      generalize agr p F (fOf X) (fOf Y) i = ag at *
      clear hag hev hbl hca hcs hcb hcs' e2 e2' hvx hvy
      go_wp2_with fail
      go_region_held3 (fun w' => w'.cell? ⟨bb, ob + i, none⟩ = some (.int .i64 y) ∧ Below w.heap.size w w')
        (first
          | exact ⟨ckbd, HBD⟩
          | (go_split_ands
             refine ⟨?_, ?_⟩
             · (rw [hbk.cell (by first | exact hbb | (show bb < wr.drew.heap.size; exact hbb))]; assumption)
             · exact Below.trans ‹Below w.heap.size w _› (hbk.mono (by first | exact hbbw | (show w.heap.size ≤ wr.drew.heap.size; exact hbbw)))))
        (first
          | (go_at_call 33; ((with_reducible refine (HEV.out _ (by assumption)).mono ?_); rintro e wk ⟨rfl, hbk⟩)))
      all_goals
        go_split_ands
        by_cases hxy : ex = y
        · have t0 : (ex == y) = true := by simpa using hxy
          have t1 : (y == ex) = true := by simpa using hxy.symm
          have ha1 : agr p F (fOf X) (fOf Y) (i + 1) = ag + 1 := by rw [HAG.out, if_pos hxy]
          have HA1 := Lib.hid ha1
          clear ha1 hxy
          go_wp2_with fail
          go_roundw
          case measure => simp [intOf]; omega
          case rel => exact ⟨i + 1, by omega, by go_num, by rw [HA1.out]; go_num, by assumption⟩
        · have t0 : (ex == y) = false := by simpa using hxy
          have t1 : (y == ex) = false := by simp only [beq_eq_false_iff_ne]; exact fun h => hxy h.symm
          have ha1 : agr p F (fOf X) (fOf Y) (i + 1) = ag := by rw [HAG.out, if_neg hxy]; rfl
          have HA1 := Lib.hid ha1
          clear ha1 hxy
          go_wp2_with fail
          go_roundw
          case measure => simp [intOf]; omega
          case rel => exact ⟨i + 1, by omega, by go_num, by rw [HA1.out], by assumption⟩
    · have hi' : i = m := by omega
      subst hi'
      clear hbl
      go_wp2_with fail
      go_ret
      exact ⟨(by rw [← HN.out]; rfl), HBL.out⟩

/-! ### Rows of numbers -/
/-- The block of a value, if it has one, is among some. -/
def Among (S : Nat → Prop) (v : Value) : Prop := ∀ g, v.ownBlock = some g → S g
theorem Among.new {w : World} {B : Nat} {v : Value} {L : List Int} {S : Nat → Prop} (h : OwnI w B v L) (hS : ∀ b, B ≤ b → S b) : Among S v := by
  intro g hg
  exact hS g (World.ownsRow.lt h g hg).1
/-- Rows of numbers of the call's own, their blocks among some. -/
def RowsI (w : World) (B : Nat) (S : Nat → Prop) (rb n cap : Nat) (M : List (List Int)) : Prop := ∃ us : List Value, w.ownsRow B 22 1 (.slice (some ⟨rb, 0, none⟩) n cap) n us ∧ M.length = n ∧ ∀ k, k < n → OwnI w B (us.getD k (.slice none 0 0)) (M.getD k []) ∧ Among S (us.getD k (.slice none 0 0))
section
variable {w w' : World} {B rb n cap : Nat} {S T : Nat → Prop} {M : List (List Int)}
theorem RowsI.us_len {us : List Value} (h : w.ownsRow B 22 1 (.slice (some ⟨rb, 0, none⟩) n cap) n us) : us.length = n := by have := h.1; omega
theorem RowsI.at_ (h : RowsI w B S rb n cap M) {k : Nat} (hk : k < n) : ∃ u, w.cell? ⟨rb, k, none⟩ = some u ∧ OwnI w B u (M.getD k []) ∧ Among S u := by
  obtain ⟨us, h1, h2, h3⟩ := h
  have hl := RowsI.us_len h1
  refine ⟨us.getD k (.slice none 0 0), ?_, h3 k hk⟩
  have := World.ownsRow.cellAt h1 k (by omega)
  rw [this, List.getElem?_eq_getElem (by omega), List.getD_eq_getElem?_getD, List.getElem?_eq_getElem (by omega)]; rfl
theorem RowsI.frozen (h : RowsI w B S rb n cap M) (k : Nat) : w.frozen? ⟨rb, k, none⟩ = false := by
  obtain ⟨us, h1, h2, h3⟩ := h
  exact World.ownsRow.frozenAt h1 k
theorem RowsI.len (h : RowsI w B S rb n cap M) : M.length = n := by obtain ⟨us, h1, h2, h3⟩ := h; exact h2
theorem RowsI.lt (h : RowsI w B S rb n cap M) : B ≤ rb ∧ rb < w.heap.size := by
  obtain ⟨us, h1, h2, h3⟩ := h
  exact World.ownsRow.lt h1 rb rfl
theorem RowsI.room (h : RowsI w B S rb n cap M) : n ≤ cap := by
  obtain ⟨us, h1, _⟩ := h
  rcases h1.2 with ⟨h', _⟩ | ⟨g', cap', cur, h', _, _, hnc, _⟩
  · cases h'
  · injection h' with _ h2 h3; omega
/-- The blocks are others than one that has grown. -/
theorem RowsI.kept {row : Option Nat} (h : RowsI w B S rb n cap M) (hg : w.grownBy w' row) (hv : row ≠ some rb) (hu : ∀ g, row = some g → ¬ S g) : RowsI w' B S rb n cap M := by
  obtain ⟨us, h1, h2, h3⟩ := h
  refine ⟨us, h1.kept hg (.inr fun e => hv e.symm), h2, fun k hk => ⟨(h3 k hk).1.kept hg ?_, (h3 k hk).2⟩⟩
  cases ho : (us.getD k (.slice none 0 0)).ownBlock with
  | none => exact .inl rfl
  | some g => exact .inr fun e => hu g e.symm ((h3 k hk).2 g ho)
theorem RowsI.below (h : RowsI w B S rb n cap M) (hb : Below w.heap.size w w') : RowsI w' B S rb n cap M :=
  h.kept (only_of_below hb none) (by simp) (fun g e => by cases e)
theorem RowsI.drew (h : RowsI w B S rb n cap M) : RowsI w.drew B S rb n cap M := h
theorem RowsI.mono (h : RowsI w B S rb n cap M) (hST : ∀ b, b < w.heap.size → S b → T b) : RowsI w B T rb n cap M := by
  obtain ⟨us, h1, h2, h3⟩ := h
  exact ⟨us, h1, h2, fun k hk => ⟨(h3 k hk).1, fun g hg => hST g (World.ownsRow.lt (h3 k hk).1 g hg).2 ((h3 k hk).2 g hg)⟩⟩
/-- A row of numbers is no row of rows. -/
theorem OwnI.not_rows {u : Value} {L : List Int} (h : OwnI w B u L) {us : List Value} (h1 : w.ownsRow B 22 1 (.slice (some ⟨rb, 0, none⟩) n cap) n us) : u.ownBlock = none ∨ u.ownBlock ≠ some rb := own_ne h h1 (by decide)
theorem RowsI.apart (h : RowsI w B S rb n cap M) {u : Value} {L : List Int} (hu : OwnI w B u L) : u.ownBlock = none ∨ u.ownBlock ≠ some rb := by
  obtain ⟨us, h1, h2, h3⟩ := h
  exact hu.not_rows h1
theorem getD_setR {α : Type} (l : List α) (k i : Nat) (y d : α) (hk : k < l.length) : (l.set k y).getD i d = if i = k then y else l.getD i d := by
  rw [List.getD_eq_getElem?_getD, List.getD_eq_getElem?_getD, List.getElem?_set]
  by_cases h : k = i
  · subst h; rw [if_pos rfl, if_pos hk, if_pos rfl]; rfl
  · rw [if_neg h, if_neg (fun e => h e.symm)]
/-- Another row is put into a place. -/
theorem RowsI.put (h : RowsI w B S rb n cap M) {k : Nat} (hk : k < n) {u : Value} {L : List Int} (hu : OwnI w B u L) (hs : Among S u) : RowsI (w.setCell ⟨rb, k, none⟩ u) B S rb n cap (M.set k L) ∧ w.grownBy (w.setCell ⟨rb, k, none⟩ u) (some rb) := by
  obtain ⟨us, h1, h2, h3⟩ := h
  have hl := RowsI.us_len h1
  obtain ⟨h4, h5⟩ := World.ownsRow.stored h1 k u
  refine ⟨⟨us.set k u, h4, by rw [List.length_set]; exact h2, fun j hj => ?_⟩, h5⟩
  rw [getD_setR _ _ _ _ _ (by omega), getD_setR _ _ _ _ _ (by omega)]
  by_cases hjk : j = k
  · rw [if_pos hjk, if_pos hjk]; exact ⟨hu.kept h5 (hu.not_rows h1), hs⟩
  · rw [if_neg hjk, if_neg hjk]; exact ⟨(h3 j hj).1.kept h5 ((h3 j hj).1.not_rows h1), (h3 j hj).2⟩
end
end Go.Proofs.YtjfphobfikadlaaDoor
namespace Go.Proofs.YtjfphobfikadlaaDoor
open Go.RowKit Num

/-- The values of shares at a place. -/
def colY (l : List Sh) (i : Nat) : List Int := l.map fun s => s.2.getD i 0
theorem colY_len (l : List Sh) (i : Nat) : (colY l i).length = l.length := by simp [colY]
theorem colY_get (l : List Sh) (i k : Nat) (h : k < l.length) : (colY l i).getD k 0 = (shAt l k).2.getD i 0 := by
  unfold colY shAt
  rw [List.getD_eq_getElem?_getD, List.getElem?_map, List.getD_eq_getElem?_getD (l := l), List.getElem?_eq_getElem h]; rfl
theorem hsOf_len (l : List Sh) : (hsOf l).length = l.length := by simp [hsOf]
/-- Shares that are good in a plan: holders of the plan, each once, equally many values, each an element. -/
structure GoodSh (p hold m : Nat) (l : List Sh) : Prop where
  holder : ∀ k, k < l.length → 1 ≤ (shAt l k).1 ∧ (shAt l k).1 ≤ hold
  once : ∀ i j, i < l.length → j < l.length → i ≠ j → (shAt l i).1 ≠ (shAt l j).1
  len : ∀ k, k < l.length → (shAt l k).2.length = m
  inF : ∀ k, k < l.length → InF p (shAt l k).2
theorem GoodSh.apart {p hold m : Nat} {l : List Sh} (h : GoodSh p hold m l) (hp : hold < p) : ApartN p (fOf (hsOf l)) (hsOf l).length := by
  intro i j hi hj hne hd
  rw [hsOf_len] at hi hj
  rw [hsOf_get l i hi, hsOf_get l j hj] at hd
  have h1 := h.holder i hi
  have h2 := h.holder j hj
  have := h.once i j hi hj hne
  have := Int.eq_zero_of_dvd_of_natAbs_lt_natAbs hd (by omega)
  omega
theorem GoodSh.dist {p hold m : Nat} {l : List Sh} (h : GoodSh p hold m l) : ∀ i j, i < (hsOf l).length → j < (hsOf l).length → i ≠ j → (hsOf l).getD i 0 ≠ (hsOf l).getD j 0 := by
  intro i j hi hj hne
  rw [hsOf_len] at hi hj
  have e1 := hsOf_get l i hi
  have e2 := hsOf_get l j hj
  unfold fOf at e1 e2
  rw [e1, e2]
  exact h.once i j hi hj hne
theorem GoodSh.hsF {p hold m : Nat} {l : List Sh} (h : GoodSh p hold m l) (hp : hold < p) : InF p (hsOf l) := by
  intro k hk
  rw [hsOf_len] at hk
  have e := hsOf_get l k hk
  unfold fOf at e
  have := h.holder k hk
  rw [e]; omega
theorem GoodSh.colF {p hold m : Nat} {l : List Sh} (h : GoodSh p hold m l) (i : Nat) (hi : i < m) : InF p (colY l i) := by
  intro k hk
  rw [colY_len] at hk
  rw [colY_get l i k hk]
  exact h.inF k hk i (by rw [h.len k hk]; exact hi)
def BoolBelow (b : Bool) (w : World) (e : Ending) (w' : World) : Prop := e = .returned (.bool b) ∧ Below w.heap.size w w'
set_option maxHeartbeats 400000 in
theorem s_Valid (p need hold : Nat) (w : World) (hw : BasesOk w) (hp : Prm p) (h2 : p ≤ 1073741824) (n1 : 1 ≤ need) (n2 : need ≤ hold) (n3 : hold ≤ 16) (n4 : hold < p) :
    Calls Tryd.prog 59 #[.agg #[.int .i64 (p : Int), .int .i64 (need : Int), .int .i64 (hold : Int)]] w (BoolBelow true w) := by
  have hw1 := fun o => hw.alloc o
  have t1 : decide ((1 : Int) ≤ (need : Int)) = true := decide_eq_true (by omega)
  have t2 : decide ((need : Int) ≤ (hold : Int)) = true := decide_eq_true (by omega)
  have t3 : decide ((hold : Int) ≤ 16) = true := decide_eq_true (by omega)
  have t4 : decide ((hold : Int) < (p : Int)) = true := decide_eq_true (by omega)
  go_enter Tryd.func59, Tryd.ntmps59
  go_wp2_with fail
  refine (f_Valid p _ (hw1 _) hp h2).mono ?_
  rintro e w' ⟨rfl, rfl⟩
  go_wp2_with fail
  go_ret
  exact ⟨rfl, (Below.refl _ _).alloc (Nat.le_refl _) _⟩

/-- Which holders have been seen among the first k shares. -/
def seenV (L : List Sh) (k : Nat) (j : Nat) : Value := .bool (decide (∃ i, i < k ∧ (shAt L i).1 = (j : Int)))
/-- Values in a row of cells. -/
structure ArrV (w : World) (B n : Nat) (f : Nat → Value) : Prop where
  cell : ∀ i, i < n → w.cell? ⟨B, i, none⟩ = some (f i)
  live : ∀ i, i < n → w.frozen? ⟨B, i, none⟩ = false
def updV (f : Nat → Value) (i : Nat) (v : Value) : Nat → Value := fun j => if j = i then v else f j
theorem ArrV.upd {w : World} {B n : Nat} {f : Nat → Value} (h : ArrV w B n f) {i : Nat} (v : Value) (hi : i < n) : ArrV (w.setCell ⟨B, i, none⟩ v) B n (updV f i v) := by
  refine ⟨fun j hj => ?_, fun j hj => ?_⟩
  · by_cases hji : j = i
    · subst hji; rw [World.cell?_setCell_same _ _ _ (h.cell j hj)]; unfold updV; rw [if_pos rfl]
    · rw [World.cell?_setCell_other _ _ _ _ (by intro e; injection e with e1 e2; exact hji e2.symm), h.cell j hj]; unfold updV; rw [if_neg hji]
  · rw [World.frozen?_setCell]; exact h.live j hj
theorem ArrV.congr {w : World} {B n : Nat} {f g : Nat → Value} (h : ArrV w B n f) (e : ∀ i, i < n → f i = g i) : ArrV w B n g :=
  ⟨fun i hi => by rw [h.cell i hi, e i hi], h.live⟩
theorem ArrV.drew {w : World} {B n : Nat} {f : Nat → Value} (h : ArrV w B n f) : ArrV w.drew B n f := ⟨h.cell, h.live⟩
end Go.Proofs.YtjfphobfikadlaaDoor
namespace Go.Proofs.YtjfphobfikadlaaDoor
open Go.RowKit Num

set_option maxHeartbeats 400000 in
theorem c_Room (p need hold n : Nat) (w : World) (hp : p ≤ 2147483648) (hnn : need ≤ n) (hn : n ≤ 1000000) :
    Calls Tryd.prog 14 #[.agg #[.int .i64 (p : Int), .int .i64 (need : Int), .int .i64 (hold : Int)], .int .i64 (n : Int)] w fun e w' => e = .returned (.int .i64 (((n - need) / 2 : Nat) : Int)) ∧ Below w.heap.size w w' := by
  have t1 : decide ((n : Int) < (need : Int)) = false := decide_eq_false (by omega)
  go_enter Tryd.func14, Tryd.ntmps14
  go_wp2_with fail
  go_ret
  exact ⟨ret_int (by omega), (Below.refl _ _).alloc (Nat.le_refl _) _⟩

set_option maxRecDepth 100000 in
set_option maxHeartbeats 1000000 in
theorem c_Values (v : Value) (L : List Sh) (i : Nat) (S : Nat → Prop) (w : World) (hv : ShAt w S v L) (hS : ∀ b, S b → b < w.heap.size) (hl : L.length ≤ 1000) (hi : ∀ k, k < L.length → i < (shAt L k).2.length) :
    Calls Tryd.prog 31 #[v, .int .i64 (i : Int)] w (IntsPost (colY L i) w) := by
  obtain ⟨A, n, c, rfl, hn, hnc, hc⟩ := hv
  obtain ⟨i0, hin, hz0, hz1, hz2⟩ := info_parts infoI
  have hn1 : n ≤ 1000 := by omega
  rw [← hn] at hi
  have HN := Lib.hid hn
  have HI := Lib.hid hi
  have HC := Lib.hid hc
  have q0 : (0 : Int) ≤ (i : Int) := by omega
  clear hn hl hi hc
  go_enter Tryd.func31, Tryd.ntmps31
  go_wp2_with fail
  go_loopw [5, 10] (fun o t wr => ∃ k : Nat, k ≤ n ∧ t = .int .i64 k ∧ wr.ownsRow w.heap.size 3 1 o k ((colY (L.take k) i).map (Value.int .i64)) ∧ Below w.heap.size w wr) (fun _ t _ => n - (intOf t).toNat)
  case atStart => exact ⟨0, by omega, rfl, World.ownsRow_nil _ _ _ _, Below.refl _ _⟩
  case round =>
    obtain ⟨k, hk, rfl, hown, hbl⟩ := hrel
    have hsz := hbl.size
    by_cases hlt : k < n
    · obtain ⟨b, off, rfl, hSb, hcell⟩ := HC.out (by omega)
      obtain ⟨u, c0, c1, hu⟩ := hcell k hlt
      obtain ⟨Au, nu, cu, rfl, e1, e2, e3⟩ := hu
      have hiL := HI.out k hlt
      obtain ⟨bu, offu, rfl, hSu, hcu⟩ := e3 (by omega)
      have hbw := hS b hSb
      have hbu := hS bu hSu
      have d0 := (hbl.cell (p := ⟨b, off + k * 2, none⟩) hbw).trans c0
      have d1 := (hbl.cell (p := ⟨b, off + k * 2 + 1, none⟩) hbw).trans c1
      have d2 := (hbl.cell (p := ⟨bu, offu + i, none⟩) hbu).trans (hcu i (by omega))
      have qk : (k : Int) < (n : Int) := by omega
      have qi : (i : Int) < (nu : Int) := by omega
      have HBL := Lib.hid hbl
      obtain ⟨y, hy⟩ : ∃ y, (shAt L k).2.getD i 0 = y := ⟨_, rfl⟩
      rw [hy] at d2
      obtain ⟨h, hh⟩ : ∃ h, (shAt L k).1 = h := ⟨_, rfl⟩
      rw [hh] at d0
      have hstep : (colY (L.take (k + 1)) i).map (Value.int .i64) = (colY (L.take k) i).map (Value.int .i64) ++ [.int .i64 y] := by
        have hkl : k < L.length := by rw [← HN.out]; exact hlt
        unfold colY
        rw [List.take_succ_eq_append_getElem hkl, List.map_append, List.map_append]
        have : shAt L k = L[k] := by unfold shAt; rw [List.getD_eq_getElem?_getD, List.getElem?_eq_getElem hkl]; rfl
        rw [← hy, this]; rfl
      have HST := Lib.hid hstep
      have bz : bu < wr.heap.size := by omega
      clear hbl hcell c0 c1 hh hstep hy e1 e2 e3 hcu hiL
      go_wp2_with (at_builtin; refine wpList_append_own _ rfl _ _ 22 rfl w.heap.size 3 i0 (.int .i64 0) 1 8 Tryd.underlying22 hin hz0 hz1 hz2 rfl (by decide) _ _ _ rfl ((hown.alloc _).alloc _) ⟨wr.heap.size + 1, 0, none⟩ 1 1 [.int .i64 y] rfl rfl (fun j u hj => by have := cell_one_new (wr.alloc (.cells #[.int .i64 h, .slice (some ⟨bu, offu, none⟩) nu cu] 54)) (.int .i64 y) 3 j u hj; simpa using this) (ints_oneCell .i64 [_]) (by unfold maxLen; omega) (by omega) (by simp; omega) ?_)
      intro v' w2 hown' hgrow _
      have hg := grown_past (grown_past hgrow)
      have hown2 : w2.ownsRow w.heap.size 3 1 v' (k + 1) ((colY (L.take (k + 1)) i).map (Value.int .i64)) := by rw [HST.out]; simpa using hown'
      have hul : ∀ g, u5.ownBlock = some g → w.heap.size ≤ g := fun g hg => (hown.lt g hg).1
      have hb2 := HBL.out.grown hg hsz hul
      have HO2 := Lib.hid hown2
      have HB2 := Lib.hid hb2
      clear hown' hgrow hg hown2 hul hb2 hown
      go_wp2_with fail
      go_roundw
      case measure => simp [intOf]; omega
      case rel => exact ⟨k + 1, by omega, by go_num, HO2.out, HB2.out⟩
    · have hkn : k = n := by omega
      subst hkn
      go_wp2_with fail
      go_ret
      refine ⟨_, rfl, IntsAt.of_own (n := k) ?_, hbl⟩
      rwa [List.take_of_length_le (by rw [← HN.out]; exact Nat.le_refl _)] at hown

set_option maxHeartbeats 400000 in
theorem s_elem1 (pb p : Nat) (x : Int) (w : World) (hc : w.cell? ⟨pb, 0, none⟩ = some (.int .i64 (p : Int))) (h0 : 0 ≤ x) (h1 : x < p) :
    Calls Tryd.prog 104 #[.int .i64 x, .pointer (some ⟨pb, 0, none⟩)] w fun e w' => e = .returned (.bool false) ∧ w = w' := by
  have t1 : decide (x < 0) = false := decide_eq_false (by omega)
  have t2 : decide ((p : Int) ≤ x) = false := decide_eq_false (by omega)
  clear h0 h1
  go_enter Tryd.func104, Tryd.ntmps104
  go_wp2_with fail
  go_ret
  exact ⟨rfl, rfl⟩
set_option maxRecDepth 100000 in
set_option maxHeartbeats 1000000 in
theorem s_IndexFunc (pb p : Nat) (v : Value) (xs : List Int) (S : Nat → Prop) (w : World) (hv : IntsAt w S v xs) (hl : xs.length ≤ 1000000) (hc : w.cell? ⟨pb, 0, none⟩ = some (.int .i64 (p : Int))) (hx : InF p xs) :
    Calls Tryd.prog 105 #[v, .func (.func 104) #[] #[.pointer (some ⟨pb, 0, none⟩)]] w fun e w' => e = .returned (.int .i64 (-1)) ∧ w = w' := by
  obtain ⟨A, n, ca, rfl, hn, hnc, hcc⟩ := hv
  rw [← hn] at hl
  have hx' : ∀ k, k < n → 0 ≤ xs.getD k 0 ∧ xs.getD k 0 < p := fun k hk => hx k (by omega)
  have HX := Lib.hid hx'
  have HCC := Lib.hid hcc
  clear hn hcc hx hx'
  go_enter Tryd.func105, Tryd.ntmps105
  go_wp2_with fail
  go_loopw [8] (fun t wr => ∃ i : Nat, i ≤ n ∧ t = .int .i64 i ∧ w = wr) (fun t _ => n - (intOf t).toNat)
  case atStart => exact ⟨0, by omega, rfl, rfl⟩
  case round =>
    obtain ⟨i, hin, rfl, rfl⟩ := hrel
    by_cases hlt : i < n
    · obtain ⟨b, off, rfl, _, hcell⟩ := HCC.out (by omega)
      have cx := hcell i hlt
      have bx := HX.out i hlt
      obtain ⟨x, hx⟩ : ∃ x, xs.getD i 0 = x := ⟨_, rfl⟩
      rw [hx] at cx bx
      have qi : (i : Int) < (n : Int) := by omega
      have qi0 : (0 : Int) ≤ (i : Int) := by omega
      have he := s_elem1 pb p x w hc bx.1 bx.2
      have HE := Lib.hid he
      clear hx hcell bx he
      go_wp2_with fail
      refine HE.out.mono ?_
      rintro e w' ⟨rfl, rfl⟩
      go_wp2_with fail
      go_roundw
      case measure => simp [intOf]; omega
      case rel => exact ⟨i + 1, by omega, by go_num, by first | rfl | trivial⟩
    · have hi' : i = n := by omega
      subst hi'
      go_wp2_with fail
      go_ret
      exact ⟨rfl, rfl⟩
set_option maxHeartbeats 400000 in
theorem s_ContainsFunc (pb p : Nat) (v : Value) (xs : List Int) (S : Nat → Prop) (w : World) (hv : IntsAt w S v xs) (hl : xs.length ≤ 1000000) (hc : w.cell? ⟨pb, 0, none⟩ = some (.int .i64 (p : Int))) (hx : InF p xs) :
    Calls Tryd.prog 103 #[v, .func (.func 104) #[] #[.pointer (some ⟨pb, 0, none⟩)]] w fun e w' => e = .returned (.bool false) ∧ w = w' := by
  have h := s_IndexFunc pb p v xs S w hv hl hc hx
  have H := Lib.hid h
  clear h hv hx hc
  go_enter Tryd.func103, Tryd.ntmps103
  go_wp2_with fail
  refine H.out.mono ?_
  rintro e w' ⟨rfl, rfl⟩
  go_wp2_with fail
  go_ret
  exact ⟨rfl, rfl⟩
set_option maxHeartbeats 400000 in
theorem s_elements (p need hold : Nat) (v : Value) (xs : List Int) (S : Nat → Prop) (w : World) (hv : IntsAt w S v xs) (hS : ∀ b, S b → b < w.heap.size) (hl : xs.length ≤ 1000000) (hx : InF p xs) :
    Calls Tryd.prog 99 #[.agg #[.int .i64 (p : Int), .int .i64 (need : Int), .int .i64 (hold : Int)], v] w (BoolBelow true w) := by
  obtain ⟨A, n, c, rfl, hn, hnc, hcc⟩ := id hv
  have h := s_ContainsFunc w.heap.size p _ xs S (w.alloc (.cells #[.int .i64 (p : Int), .int .i64 (need : Int), .int .i64 (hold : Int)] 28)) (hv.keep fun b hb => Below.heap_alloc _ _ _ (hS b hb)) hl (by rw [World.cell?_alloc_new]; rfl) hx
  have H := Lib.hid h
  clear h hv hx hn hcc
  go_enter Tryd.func99, Tryd.ntmps99
  go_wp2_with fail
  refine H.out.mono ?_
  rintro e w' ⟨rfl, rfl⟩
  go_wp2_with fail
  go_ret
  exact ⟨rfl, (Below.refl _ _).alloc (Nat.le_refl _) _⟩
set_option maxHeartbeats 400000 in
theorem s_Stands (p need hold h : Nat) (v : Value) (xs : List Int) (S : Nat → Prop) (w : World) (hv : IntsAt w S v xs) (hS : ∀ b, S b → b < w.heap.size) (hl : xs.length ≤ 1000000) (hx : InF p xs) (h1 : 1 ≤ h) (h2 : h ≤ hold) :
    Calls Tryd.prog 87 #[.agg #[.int .i64 (p : Int), .int .i64 (need : Int), .int .i64 (hold : Int)], .agg #[.int .i64 (h : Int), v]] w (BoolBelow true w) := by
  obtain ⟨A, n, c, rfl, hn, hnc, hcc⟩ := id hv
  have t1 : decide ((1 : Int) ≤ (h : Int)) = true := decide_eq_true (by omega)
  have t2 : decide ((h : Int) ≤ (hold : Int)) = true := decide_eq_true (by omega)
  have t3 : decide (h ≤ hold) = true := decide_eq_true h2
  have e := fun (o o' : Obj) => s_elements p need hold (.slice A n c) xs S ((w.alloc o).alloc o') ((hv.keep fun b hb => Below.heap_alloc _ _ _ (hS b hb)).keep fun b hb => Below.heap_alloc _ _ _ (by have := hS b hb; simp; omega)) (fun b hb => by have := hS b hb; simp; omega) hl hx
  have E := Lib.hid e
  clear e hv hx hn hcc h1 h2
  go_enter Tryd.func87, Tryd.ntmps87
  go_wp2_with fail
  refine (E.out _ _).mono ?_
  rintro e w' ⟨rfl, hb⟩
  have HB := Lib.hid hb
  clear hb
  go_wp2_with fail
  go_ret
  exact ⟨rfl, (((Below.refl _ _).alloc (Nat.le_refl _) _).alloc (by simp) _).trans (HB.out.mono (by simp; omega))⟩
end Go.Proofs.YtjfphobfikadlaaDoor
