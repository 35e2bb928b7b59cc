/- Contracts: how many points a polynomial has; whether numbers differ. -/
import Derived.Test.YtjfphobfikadlaaGreatDoorX13
import Derived.Deep.RegionHeld3
set_option linter.unusedVariables false
set_option linter.unusedSimpArgs false
namespace Go.Proofs.YtjfphobfikadlaaGreatDoor
open Go.RowKit Num

set_option maxRecDepth 100000 in
set_option maxHeartbeats 1000000 in
theorem c_agree (p : Nat) (vf vx vy : Value) (F X Y : List Int) (S T U : Nat → Prop) (w : World) (hp1 : 1 ≤ p) (h2 : p ≤ 1073741824)
    (hf : IntsAt w S vf F) (hS : ∀ b, S b → b < w.heap.size) (hx : IntsAt w T vx X) (hT : ∀ b, T b → b < w.heap.size) (hy : IntsAt w U vy Y) (hU : ∀ b, U b → b < w.heap.size)
    (lf : F.length ≤ 10000) (lx : X.length ≤ 1000) (ly : Y.length = X.length) (ff : InF p F) (fx : InF p X) :
    Calls Tryz.prog 134 #[.int .i64 (p : Int), vf, vx, vy] w (IntB (agr p F (fOf X) (fOf Y) X.length : Int) w) := by
  obtain ⟨A, n, ca, rfl, hn, hnc, hcc⟩ := id hx
  obtain ⟨B, m, cb, rfl, hm, hmc, hcd⟩ := id hy
  have hmn : m = n := by omega
  subst hmn
  have hn1 : m ≤ 1000 := by omega
  have hle := agr_le p F (fOf X) (fOf Y)
  have HF := Lib.hid hf
  have HX := Lib.hid hx
  have HY := Lib.hid hy
  have HN := Lib.hid hn
  have HLE := Lib.hid hle
  clear hf hx hy hn hm hcc hcd ly hle
  go_enter Tryz.func134, Tryz.ntmps134
  go_wp2_with fail
  go_loopw [14, 9] (fun t c wr => ∃ i : Nat, i ≤ m ∧ t = .int .i64 i ∧ c = .int .i64 (agr p F (fOf X) (fOf Y) i : Int) ∧ Below w.heap.size w wr) (fun t _ _ => m - (intOf t).toNat)
  case atStart => exact ⟨0, by omega, rfl, rfl, Below.refl _ _⟩
  case round =>
    obtain ⟨i, him, rfl, rfl, hbl⟩ := hrel
    have HBL := Lib.hid hbl
    by_cases hlt : i < m
    · have hir := HX.out.keep (w' := wr) fun q hq => hbl.block q (hT q hq)
      obtain ⟨A', n', c', hv', e2, e3, hcs⟩ := hir
      injection hv' with v1 v2 v3
      subst v1 v2 v3
      obtain ⟨ba, oa, rfl, hTa, hca⟩ := hcs (by omega)
      have cka := hca i hlt
      have fai := fx i (by have := HN.out; omega)
      have hjr := HY.out.keep (w' := wr) fun q hq => hbl.block q (hU q hq)
      obtain ⟨B', m', c'', hv', e2', e3', hcs'⟩ := hjr
      injection hv' with v1 v2 v3
      subst v1 v2 v3
      obtain ⟨bb, ob, rfl, hUb, hcb⟩ := hcs' (by omega)
      have ckb := hcb i hlt
      have hbb : bb < wr.heap.size := by have := hU bb hUb; have := hbl.size; omega
      have hag : agr p F (fOf X) (fOf Y) (i + 1) = agr p F (fOf X) (fOf Y) i + (if ev F (fOf X i) % (p : Int) = fOf Y i then 1 else 0) := rfl
      have hvx : X.getD i 0 = fOf X i := rfl
      have hvy : Y.getD i 0 = fOf Y i := rfl
      rw [hvx] at cka fai
      rw [hvy] at ckb
      have hle := HLE.out i
      generalize fOf X i = x at *
      generalize fOf Y i = y at *
      have hev := fun (W : World) (hb : Below w.heap.size w W) => p_Eval p x vf F S W hp1 h2 (by omega) (by omega) (HF.out.keep fun q hq => hb.block q (hS q hq)) (fun q hq => by have := hS q hq; have := hb.size; omega) (by omega) ff
      generalize ev F x % (p : Int) = ex at *
      have HEV := Lib.hid hev
      have HAG := Lib.hid hag
      have qi : (i : Int) < (m : Int) := by omega
      have qi0 : (0 : Int) ≤ (i : Int) := by omega
      have HBD := HBL.out.drew
      have hbbw : w.heap.size ≤ wr.heap.size := hbl.size
      have ckbd : wr.drew.cell? ⟨bb, ob + i, none⟩ = some (.int .i64 y) := ckb
      generalize agr p F (fOf X) (fOf Y) i = ag at *
      clear hag hev hbl hca hcs hcb hcs' e2 e2' hvx hvy
      go_wp2_with fail
      go_region_held3 (fun w' => w'.cell? ⟨bb, ob + i, none⟩ = some (.int .i64 y) ∧ Below w.heap.size w w')
        (first
          | exact ⟨ckbd, HBD⟩
          | (go_split_ands
             refine ⟨?_, ?_⟩
             · (rw [hbk.cell (by first | exact hbb | (show bb < wr.drew.heap.size; exact hbb))]; assumption)
             · exact Below.trans ‹Below w.heap.size w _› (hbk.mono (by first | exact hbbw | (show w.heap.size ≤ wr.drew.heap.size; exact hbbw)))))
        (first
          | (go_at_call 97; ((with_reducible refine (HEV.out _ (by assumption)).mono ?_); rintro e wk ⟨rfl, hbk⟩)))
      all_goals
        go_split_ands
        by_cases hxy : ex = y
        · have t0 : (ex == y) = true := by simpa using hxy
          have t1 : (y == ex) = true := by simpa using hxy.symm
          have ha1 : agr p F (fOf X) (fOf Y) (i + 1) = ag + 1 := by rw [HAG.out, if_pos hxy]
          have HA1 := Lib.hid ha1
          clear ha1 hxy
          go_wp2_with fail
          go_roundw
          case measure => simp [intOf]; omega
          case rel => exact ⟨i + 1, by omega, by go_num, by rw [HA1.out]; go_num, by assumption⟩
        · have t0 : (ex == y) = false := by simpa using hxy
          have t1 : (y == ex) = false := by simp only [beq_eq_false_iff_ne]; exact fun h => hxy h.symm
          have ha1 : agr p F (fOf X) (fOf Y) (i + 1) = ag := by rw [HAG.out, if_neg hxy]; rfl
          have HA1 := Lib.hid ha1
          clear ha1 hxy
          go_wp2_with fail
          go_roundw
          case measure => simp [intOf]; omega
          case rel => exact ⟨i + 1, by omega, by go_num, by rw [HA1.out], by assumption⟩
    · have hi' : i = m := by omega
      subst hi'
      clear hbl
      go_wp2_with fail
      go_ret
      exact ⟨(by rw [← HN.out]; rfl), HBL.out⟩

/-! ### Rows of numbers -/
/-- The block of a value, if it has one, is among some. -/
def Among (S : Nat → Prop) (v : Value) : Prop := ∀ g, v.ownBlock = some g → S g
theorem Among.new {w : World} {B : Nat} {v : Value} {L : List Int} {S : Nat → Prop} (h : OwnI w B v L) (hS : ∀ b, B ≤ b → S b) : Among S v := by
  intro g hg
  exact hS g (World.ownsRow.lt h g hg).1
/-- Rows of numbers of the call's own, their blocks among some. -/
def RowsI (w : World) (B : Nat) (S : Nat → Prop) (rb n cap : Nat) (M : List (List Int)) : Prop := ∃ us : List Value, w.ownsRow B 24 1 (.slice (some ⟨rb, 0, none⟩) n cap) n us ∧ M.length = n ∧ ∀ k, k < n → OwnI w B (us.getD k (.slice none 0 0)) (M.getD k []) ∧ Among S (us.getD k (.slice none 0 0))
section
variable {w w' : World} {B rb n cap : Nat} {S T : Nat → Prop} {M : List (List Int)}
theorem RowsI.us_len {us : List Value} (h : w.ownsRow B 24 1 (.slice (some ⟨rb, 0, none⟩) n cap) n us) : us.length = n := by have := h.1; omega
theorem RowsI.at_ (h : RowsI w B S rb n cap M) {k : Nat} (hk : k < n) : ∃ u, w.cell? ⟨rb, k, none⟩ = some u ∧ OwnI w B u (M.getD k []) ∧ Among S u := by
  obtain ⟨us, h1, h2, h3⟩ := h
  have hl := RowsI.us_len h1
  refine ⟨us.getD k (.slice none 0 0), ?_, h3 k hk⟩
  have := World.ownsRow.cellAt h1 k (by omega)
  rw [this, List.getElem?_eq_getElem (by omega), List.getD_eq_getElem?_getD, List.getElem?_eq_getElem (by omega)]; rfl
theorem RowsI.frozen (h : RowsI w B S rb n cap M) (k : Nat) : w.frozen? ⟨rb, k, none⟩ = false := by
  obtain ⟨us, h1, h2, h3⟩ := h
  exact World.ownsRow.frozenAt h1 k
theorem RowsI.len (h : RowsI w B S rb n cap M) : M.length = n := by obtain ⟨us, h1, h2, h3⟩ := h; exact h2
theorem RowsI.lt (h : RowsI w B S rb n cap M) : B ≤ rb ∧ rb < w.heap.size := by
  obtain ⟨us, h1, h2, h3⟩ := h
  exact World.ownsRow.lt h1 rb rfl
theorem RowsI.room (h : RowsI w B S rb n cap M) : n ≤ cap := by
  obtain ⟨us, h1, _⟩ := h
  rcases h1.2 with ⟨h', _⟩ | ⟨g', cap', cur, h', _, _, hnc, _⟩
  · cases h'
  · injection h' with _ h2 h3; omega
/-- The blocks are others than one that has grown. -/
theorem RowsI.kept {row : Option Nat} (h : RowsI w B S rb n cap M) (hg : w.grownBy w' row) (hv : row ≠ some rb) (hu : ∀ g, row = some g → ¬ S g) : RowsI w' B S rb n cap M := by
  obtain ⟨us, h1, h2, h3⟩ := h
  refine ⟨us, h1.kept hg (.inr fun e => hv e.symm), h2, fun k hk => ⟨(h3 k hk).1.kept hg ?_, (h3 k hk).2⟩⟩
  cases ho : (us.getD k (.slice none 0 0)).ownBlock with
  | none => exact .inl rfl
  | some g => exact .inr fun e => hu g e.symm ((h3 k hk).2 g ho)
theorem RowsI.below (h : RowsI w B S rb n cap M) (hb : Below w.heap.size w w') : RowsI w' B S rb n cap M :=
  h.kept (only_of_below hb none) (by simp) (fun g e => by cases e)
theorem RowsI.drew (h : RowsI w B S rb n cap M) : RowsI w.drew B S rb n cap M := h
theorem RowsI.mono (h : RowsI w B S rb n cap M) (hST : ∀ b, b < w.heap.size → S b → T b) : RowsI w B T rb n cap M := by
  obtain ⟨us, h1, h2, h3⟩ := h
  exact ⟨us, h1, h2, fun k hk => ⟨(h3 k hk).1, fun g hg => hST g (World.ownsRow.lt (h3 k hk).1 g hg).2 ((h3 k hk).2 g hg)⟩⟩
/-- A row of numbers is no row of rows. -/
theorem OwnI.not_rows {u : Value} {L : List Int} (h : OwnI w B u L) {us : List Value} (h1 : w.ownsRow B 24 1 (.slice (some ⟨rb, 0, none⟩) n cap) n us) : u.ownBlock = none ∨ u.ownBlock ≠ some rb := own_ne h h1 (by decide)
theorem RowsI.apart (h : RowsI w B S rb n cap M) {u : Value} {L : List Int} (hu : OwnI w B u L) : u.ownBlock = none ∨ u.ownBlock ≠ some rb := by
  obtain ⟨us, h1, h2, h3⟩ := h
  exact hu.not_rows h1
theorem getD_setR {α : Type} (l : List α) (k i : Nat) (y d : α) (hk : k < l.length) : (l.set k y).getD i d = if i = k then y else l.getD i d := by
  rw [List.getD_eq_getElem?_getD, List.getD_eq_getElem?_getD, List.getElem?_set]
  by_cases h : k = i
  · subst h; rw [if_pos rfl, if_pos hk, if_pos rfl]; rfl
  · rw [if_neg h, if_neg (fun e => h e.symm)]
/-- Another row is put into a place. -/
theorem RowsI.put (h : RowsI w B S rb n cap M) {k : Nat} (hk : k < n) {u : Value} {L : List Int} (hu : OwnI w B u L) (hs : Among S u) : RowsI (w.setCell ⟨rb, k, none⟩ u) B S rb n cap (M.set k L) ∧ w.grownBy (w.setCell ⟨rb, k, none⟩ u) (some rb) := by
  obtain ⟨us, h1, h2, h3⟩ := h
  have hl := RowsI.us_len h1
  obtain ⟨h4, h5⟩ := World.ownsRow.stored h1 k u
  refine ⟨⟨us.set k u, h4, by rw [List.length_set]; exact h2, fun j hj => ?_⟩, h5⟩
  rw [getD_setR _ _ _ _ _ (by omega), getD_setR _ _ _ _ _ (by omega)]
  by_cases hjk : j = k
  · rw [if_pos hjk, if_pos hjk]; exact ⟨hu.kept h5 (hu.not_rows h1), hs⟩
  · rw [if_neg hjk, if_neg hjk]; exact ⟨(h3 j hj).1.kept h5 ((h3 j hj).1.not_rows h1), (h3 j hj).2⟩
end
end Go.Proofs.YtjfphobfikadlaaGreatDoor
