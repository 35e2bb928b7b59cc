/- Contracts: how many points a polynomial has; whether numbers differ. Contracts: the first row that has something in a column; a pivot. -/
import Derived.Test.YtjfphobfikadlaaGreatDoorY13
import Derived.Deep.RegionHeld3
import Derived.BigRegion
set_option linter.unusedVariables false
set_option linter.unusedSimpArgs false
namespace Go.Proofs.YtjfphobfikadlaaGreatDoor
open Go.RowKit Num

set_option maxRecDepth 100000 in
set_option maxHeartbeats 1000000 in
theorem c_agree (p : Nat) (vf vx vy : Value) (F X Y : List Int) (S T U : Nat → Prop) (w : World) (hp1 : 1 ≤ p) (h2 : p ≤ 1073741824)
    (hf : IntsAt w S vf F) (hS : ∀ b, S b → b < w.heap.size) (hx : IntsAt w T vx X) (hT : ∀ b, T b → b < w.heap.size) (hy : IntsAt w U vy Y) (hU : ∀ b, U b → b < w.heap.size)
    (lf : F.length ≤ 10000) (lx : X.length ≤ 1000) (ly : Y.length = X.length) (ff : InF p F) (fx : InF p X) :
    Calls Tryz.prog 134 #[.int .i64 (p : Int), vf, vx, vy] w (IntB (agr p F (fOf X) (fOf Y) X.length : Int) w) := by
  obtain ⟨A, n, ca, rfl, hn, hnc, hcc⟩ := id hx
  obtain ⟨B, m, cb, rfl, hm, hmc, hcd⟩ := id hy
  have hmn : m = n := by omega
  subst hmn
  have hn1 : m ≤ 1000 := by omega
  have hle := agr_le p F (fOf X) (fOf Y)
  have HF := Lib.hid hf
  have HX := Lib.hid hx
  have HY := Lib.hid hy
  have HN := Lib.hid hn
  have HLE := Lib.hid hle
  clear hf hx hy hn hm hcc hcd ly hle
  go_enter Tryz.func134, Tryz.ntmps134
  go_wp2_with fail
  go_loopw [14, 9] (fun t c wr => ∃ i : Nat, i ≤ m ∧ t = .int .i64 i ∧ c = .int .i64 (agr p F (fOf X) (fOf Y) i : Int) ∧ Below w.heap.size w wr) (fun t _ _ => m - (intOf t).toNat)
  case atStart => exact ⟨0, by omega, rfl, rfl, Below.refl _ _⟩
  case round =>
    obtain ⟨i, him, rfl, rfl, hbl⟩ := hrel
    have HBL := Lib.hid hbl
    by_cases hlt : i < m
    · have hir := HX.out.keep (w' := wr) fun q hq => hbl.block q (hT q hq)
      obtain ⟨A', n', c', hv', e2, e3, hcs⟩ := hir
      injection hv' with v1 v2 v3
      subst v1 v2 v3
      obtain ⟨ba, oa, rfl, hTa, hca⟩ := hcs (by omega)
      have cka := hca i hlt
      have fai := fx i (by have := HN.out; omega)
      have hjr := HY.out.keep (w' := wr) fun q hq => hbl.block q (hU q hq)
      obtain ⟨B', m', c'', hv', e2', e3', hcs'⟩ := hjr
      injection hv' with v1 v2 v3
      subst v1 v2 v3
      obtain ⟨bb, ob, rfl, hUb, hcb⟩ := hcs' (by omega)
      have ckb := hcb i hlt
      have hbb : bb < wr.heap.size := by have := hU bb hUb; have := hbl.size; omega
      have hag : agr p F (fOf X) (fOf Y) (i + 1) = agr p F (fOf X) (fOf Y) i + (if ev F (fOf X i) % (p : Int) = fOf Y i then 1 else 0) := rfl
      have hvx : X.getD i 0 = fOf X i := rfl
      have hvy : Y.getD i 0 = fOf Y i := rfl
      rw [hvx] at cka fai
      rw [hvy] at ckb
      have hle := HLE.out i
      generalize fOf X i = x at *
      generalize fOf Y i = y at *
      have hev := fun (W : World) (hb : Below w.heap.size w W) => p_Eval p x vf F S W hp1 h2 (by omega) (by omega) (HF.out.keep fun q hq => hb.block q (hS q hq)) (fun q hq => by have := hS q hq; have := hb.size; omega) (by omega) ff
      generalize ev F x % (p : Int) = ex at *
      have HEV := Lib.hid hev
      have HAG := Lib.hid hag
      have qi : (i : Int) < (m : Int) := by omega
      have qi0 : (0 : Int) ≤ (i : Int) := by omega
      have HBD := HBL.out.drew
      have hbbw : w.heap.size ≤ wr.heap.size := hbl.size
      have ckbd : wr.drew.cell? ⟨bb, ob + i, none⟩ = some (.int .i64 y) := ckb
      generalize agr p F (fOf X) (fOf Y) i = ag at *
      clear hag hev hbl hca hcs hcb hcs' e2 e2' hvx hvy
      go_wp2_with fail
      go_region_held3 (fun w' => w'.cell? ⟨bb, ob + i, none⟩ = some (.int .i64 y) ∧ Below w.heap.size w w')
        (first
          | exact ⟨ckbd, HBD⟩
          | (go_split_ands
             refine ⟨?_, ?_⟩
             · (rw [hbk.cell (by first | exact hbb | (show bb < wr.drew.heap.size; exact hbb))]; assumption)
             · exact Below.trans ‹Below w.heap.size w _› (hbk.mono (by first | exact hbbw | (show w.heap.size ≤ wr.drew.heap.size; exact hbbw)))))
        (first
          | (go_at_call 97; ((with_reducible refine (HEV.out _ (by assumption)).mono ?_); rintro e wk ⟨rfl, hbk⟩)))
      all_goals
        go_split_ands
        by_cases hxy : ex = y
        · have t0 : (ex == y) = true := by simpa using hxy
          have t1 : (y == ex) = true := by simpa using hxy.symm
          have ha1 : agr p F (fOf X) (fOf Y) (i + 1) = ag + 1 := by rw [HAG.out, if_pos hxy]
          have HA1 := Lib.hid ha1
          clear ha1 hxy
          go_wp2_with fail
          go_roundw
          case measure => simp [intOf]; omega
          case rel => exact ⟨i + 1, by omega, by go_num, by rw [HA1.out]; go_num, by assumption⟩
        · have t0 : (ex == y) = false := by simpa using hxy
          have t1 : (y == ex) = false := by simp only [beq_eq_false_iff_ne]; exact fun h => hxy h.symm
          have ha1 : agr p F (fOf X) (fOf Y) (i + 1) = ag := by rw [HAG.out, if_neg hxy]; rfl
          have HA1 := Lib.hid ha1
          clear ha1 hxy
          go_wp2_with fail
          go_roundw
          case measure => simp [intOf]; omega
          case rel => exact ⟨i + 1, by omega, by go_num, by rw [HA1.out], by assumption⟩
    · have hi' : i = m := by omega
      subst hi'
      clear hbl
      go_wp2_with fail
      go_ret
      exact ⟨(by rw [← HN.out]; rfl), HBL.out⟩

/-! ### Rows of numbers -/
/-- The block of a value, if it has one, is among some. -/
def Among (S : Nat → Prop) (v : Value) : Prop := ∀ g, v.ownBlock = some g → S g
theorem Among.new {w : World} {B : Nat} {v : Value} {L : List Int} {S : Nat → Prop} (h : OwnI w B v L) (hS : ∀ b, B ≤ b → S b) : Among S v := by
  intro g hg
  exact hS g (World.ownsRow.lt h g hg).1
/-- Rows of numbers of the call's own, their blocks among some. -/
def RowsI (w : World) (B : Nat) (S : Nat → Prop) (rb n cap : Nat) (M : List (List Int)) : Prop := ∃ us : List Value, w.ownsRow B 24 1 (.slice (some ⟨rb, 0, none⟩) n cap) n us ∧ M.length = n ∧ ∀ k, k < n → OwnI w B (us.getD k (.slice none 0 0)) (M.getD k []) ∧ Among S (us.getD k (.slice none 0 0))
section
variable {w w' : World} {B rb n cap : Nat} {S T : Nat → Prop} {M : List (List Int)}
theorem RowsI.us_len {us : List Value} (h : w.ownsRow B 24 1 (.slice (some ⟨rb, 0, none⟩) n cap) n us) : us.length = n := by have := h.1; omega
theorem RowsI.at_ (h : RowsI w B S rb n cap M) {k : Nat} (hk : k < n) : ∃ u, w.cell? ⟨rb, k, none⟩ = some u ∧ OwnI w B u (M.getD k []) ∧ Among S u := by
  obtain ⟨us, h1, h2, h3⟩ := h
  have hl := RowsI.us_len h1
  refine ⟨us.getD k (.slice none 0 0), ?_, h3 k hk⟩
  have := World.ownsRow.cellAt h1 k (by omega)
  rw [this, List.getElem?_eq_getElem (by omega), List.getD_eq_getElem?_getD, List.getElem?_eq_getElem (by omega)]; rfl
theorem RowsI.frozen (h : RowsI w B S rb n cap M) (k : Nat) : w.frozen? ⟨rb, k, none⟩ = false := by
  obtain ⟨us, h1, h2, h3⟩ := h
  exact World.ownsRow.frozenAt h1 k
theorem RowsI.len (h : RowsI w B S rb n cap M) : M.length = n := by obtain ⟨us, h1, h2, h3⟩ := h; exact h2
theorem RowsI.lt (h : RowsI w B S rb n cap M) : B ≤ rb ∧ rb < w.heap.size := by
  obtain ⟨us, h1, h2, h3⟩ := h
  exact World.ownsRow.lt h1 rb rfl
theorem RowsI.room (h : RowsI w B S rb n cap M) : n ≤ cap := by
  obtain ⟨us, h1, _⟩ := h
  rcases h1.2 with ⟨h', _⟩ | ⟨g', cap', cur, h', _, _, hnc, _⟩
  · cases h'
  · injection h' with _ h2 h3; omega
/-- The blocks are others than one that has grown. -/
theorem RowsI.kept {row : Option Nat} (h : RowsI w B S rb n cap M) (hg : w.grownBy w' row) (hv : row ≠ some rb) (hu : ∀ g, row = some g → ¬ S g) : RowsI w' B S rb n cap M := by
  obtain ⟨us, h1, h2, h3⟩ := h
  refine ⟨us, h1.kept hg (.inr fun e => hv e.symm), h2, fun k hk => ⟨(h3 k hk).1.kept hg ?_, (h3 k hk).2⟩⟩
  cases ho : (us.getD k (.slice none 0 0)).ownBlock with
  | none => exact .inl rfl
  | some g => exact .inr fun e => hu g e.symm ((h3 k hk).2 g ho)
theorem RowsI.below (h : RowsI w B S rb n cap M) (hb : Below w.heap.size w w') : RowsI w' B S rb n cap M :=
  h.kept (only_of_below hb none) (by simp) (fun g e => by cases e)
theorem RowsI.drew (h : RowsI w B S rb n cap M) : RowsI w.drew B S rb n cap M := h
theorem RowsI.mono (h : RowsI w B S rb n cap M) (hST : ∀ b, b < w.heap.size → S b → T b) : RowsI w B T rb n cap M := by
  obtain ⟨us, h1, h2, h3⟩ := h
  exact ⟨us, h1, h2, fun k hk => ⟨(h3 k hk).1, fun g hg => hST g (World.ownsRow.lt (h3 k hk).1 g hg).2 ((h3 k hk).2 g hg)⟩⟩
/-- A row of numbers is no row of rows. -/
theorem OwnI.not_rows {u : Value} {L : List Int} (h : OwnI w B u L) {us : List Value} (h1 : w.ownsRow B 24 1 (.slice (some ⟨rb, 0, none⟩) n cap) n us) : u.ownBlock = none ∨ u.ownBlock ≠ some rb := own_ne h h1 (by decide)
theorem RowsI.apart (h : RowsI w B S rb n cap M) {u : Value} {L : List Int} (hu : OwnI w B u L) : u.ownBlock = none ∨ u.ownBlock ≠ some rb := by
  obtain ⟨us, h1, h2, h3⟩ := h
  exact hu.not_rows h1
theorem getD_setR {α : Type} (l : List α) (k i : Nat) (y d : α) (hk : k < l.length) : (l.set k y).getD i d = if i = k then y else l.getD i d := by
  rw [List.getD_eq_getElem?_getD, List.getD_eq_getElem?_getD, List.getElem?_set]
  by_cases h : k = i
  · subst h; rw [if_pos rfl, if_pos hk, if_pos rfl]; rfl
  · rw [if_neg h, if_neg (fun e => h e.symm)]
/-- Another row is put into a place. -/
theorem RowsI.put (h : RowsI w B S rb n cap M) {k : Nat} (hk : k < n) {u : Value} {L : List Int} (hu : OwnI w B u L) (hs : Among S u) : RowsI (w.setCell ⟨rb, k, none⟩ u) B S rb n cap (M.set k L) ∧ w.grownBy (w.setCell ⟨rb, k, none⟩ u) (some rb) := by
  obtain ⟨us, h1, h2, h3⟩ := h
  have hl := RowsI.us_len h1
  obtain ⟨h4, h5⟩ := World.ownsRow.stored h1 k u
  refine ⟨⟨us.set k u, h4, by rw [List.length_set]; exact h2, fun j hj => ?_⟩, h5⟩
  rw [getD_setR _ _ _ _ _ (by omega), getD_setR _ _ _ _ _ (by omega)]
  by_cases hjk : j = k
  · rw [if_pos hjk, if_pos hjk]; exact ⟨hu.kept h5 (hu.not_rows h1), hs⟩
  · rw [if_neg hjk, if_neg hjk]; exact ⟨(h3 j hj).1.kept h5 ((h3 j hj).1.not_rows h1), (h3 j hj).2⟩
end
end Go.Proofs.YtjfphobfikadlaaGreatDoor
namespace Go.Proofs.YtjfphobfikadlaaGreatDoor
open Go.RowKit Num

theorem infoR : (Tryz.prog.info? 24).map (fun i => (i.zero, i.size, i.bytes)) = some (some (.slice none 0 0), 1, 24) := by kernel_rfl
set_option maxHeartbeats 1000000 in
theorem c_piv1 (cb : Nat) (col : Nat) (g len cap : Nat) (y : Int) (w : World) (hc : w.cell? ⟨cb, 0, none⟩ = some (.int .i64 (col : Int))) (hl : col < len) (hy : w.cell? ⟨g, col, none⟩ = some (.int .i64 y)) :
    Calls Tryz.prog 212 #[.slice (some ⟨g, 0, none⟩) len cap, .pointer (some ⟨cb, 0, none⟩)] w fun e w' => e = .returned (.bool (y != 0)) ∧ w = w' := by
  have q0 : (0 : Int) ≤ (col : Int) := by omega
  have q1 : (col : Int) < (len : Int) := by omega
  go_enter Tryz.func212, Tryz.ntmps212
  go_wp2_with fail
  go_ret
  exact ⟨rfl, rfl⟩
/-- The first place where something stands. -/
def FirstNZ (f : Nat → Int) (m : Nat) (r : Int) : Prop := (r = -1 ∧ ∀ j, j < m → f j = 0) ∨ ∃ j : Nat, j < m ∧ r = (j : Int) ∧ f j ≠ 0
set_option maxRecDepth 100000 in
set_option maxHeartbeats 1000000 in
theorem c_IndexFunc (cb col m c B : Nat) (A : Option Addr) (L : Nat → List Int) (w : World) (hm : m ≤ 1000) (hmc : m ≤ c) (hcb : w.cell? ⟨cb, 0, none⟩ = some (.int .i64 (col : Int)))
    (hA : 0 < m → ∃ rb off, A = some ⟨rb, off, none⟩ ∧ ∀ j, j < m → ∃ u, w.cell? ⟨rb, off + j, none⟩ = some u ∧ OwnI w B u (L j) ∧ col < (L j).length) :
    Calls Tryz.prog 211 #[.slice A m c, .func (.func 212) #[] #[.pointer (some ⟨cb, 0, none⟩)]] w fun e w' => ∃ r, e = .returned (.int .i64 r) ∧ FirstNZ (fun j => (L j).getD col 0) m r ∧ w = w' := by
  have HA := Lib.hid hA
  clear hA
  go_enter Tryz.func211, Tryz.ntmps211
  go_wp2_with fail
  go_loopw [8] (fun t wr => ∃ i : Nat, i ≤ m ∧ t = .int .i64 i ∧ (∀ j, j < i → (L j).getD col 0 = 0) ∧ w = wr) (fun t _ => m - (intOf t).toNat)
  case atStart => exact ⟨0, by omega, rfl, fun j hj => absurd hj (Nat.not_lt_zero j), rfl⟩
  case round =>
    obtain ⟨i, him, rfl, hz, rfl⟩ := hrel
    have HZ := Lib.hid hz
    clear hz
    by_cases hlt : i < m
    · obtain ⟨rb, off, rfl, hrow⟩ := HA.out (by omega)
      obtain ⟨u, hu, ho, hcl⟩ := hrow i hlt
      rcases ho.form with ⟨_, h0⟩ | ⟨g, cap, rfl, hcap⟩
      · rw [h0] at hcl; simp at hcl
      have cy := ho.cell col hcl
      obtain ⟨y, hy⟩ : ∃ y, (L i).getD col 0 = y := ⟨_, rfl⟩
      rw [hy] at cy
      have hp := c_piv1 cb col g (L i).length cap y w hcb hcl cy
      generalize (L i).length = len at *
      have HP := Lib.hid hp
      have HY := Lib.hid hy
      have qi : (i : Int) < (m : Int) := by omega
      have qi0 : (0 : Int) ≤ (i : Int) := by omega
      clear hp hy ho hcl cy hrow hcb
      by_cases hy0 : y = 0
      · have t0 : (y != 0) = false := by rw [hy0]; rfl
        have HY0 := Lib.hid hy0
        clear hy0
        rw [t0] at HP
        clear t0
        go_wp2_with fail
        refine HP.out.mono ?_
        rintro e w' ⟨rfl, rfl⟩
        go_wp2_with fail
        go_roundw
        case measure => simp [intOf]; omega
        case rel => exact ⟨i + 1, by omega, by go_num, fun j hj => by
          rcases Nat.lt_or_ge j i with h | h
          · exact HZ.out j h
          · rw [show j = i by omega, HY.out]; exact HY0.out, by first | rfl | trivial⟩
      · have t0 : (y != 0) = true := by simpa using hy0
        have HY0 := Lib.hid hy0
        clear hy0
        rw [t0] at HP
        clear t0
        go_wp2_with fail
        refine HP.out.mono ?_
        rintro e w' ⟨rfl, rfl⟩
        go_wp2_with fail
        go_ret
        exact ⟨_, rfl, .inr ⟨i, hlt, rfl, by show (L i).getD col 0 ≠ 0; rw [HY.out]; exact HY0.out⟩, rfl⟩
    · have hi' : i = m := by omega
      subst hi'
      go_wp2_with fail
      go_ret
      exact ⟨_, rfl, .inl ⟨rfl, HZ.out⟩, rfl⟩

/-- The rows behind a pivot: row number k comes to the place and is made 1 in the column; the row that was there goes to place k. -/
def pivM (p : Nat) (M : List (List Int)) (pl k col : Nat) : List (List Int) :=
  ((M.set pl (M.getD k [])).set k (M.getD pl [])).set pl (linL p (invP p ((M.getD k []).getD col 0)) [] (M.getD k []))
def PivPost (p B : Nat) (S : Nat → Prop) (eb rb n cap pl col : Nat) (M : List (List Int)) (w : World) (e : Ending) (w' : World) : Prop :=
  (e = .returned (.bool false) ∧ (∀ k, pl ≤ k → k < n → (M.getD k []).getD col 0 = 0) ∧ Below w.heap.size w w') ∨
  (∃ k, pl ≤ k ∧ k < n ∧ (M.getD k []).getD col 0 ≠ 0 ∧ e = .returned (.bool true) ∧ RowsI w' B S rb n cap (pivM p M pl k col) ∧ w.grownBy w' (some rb))
set_option maxRecDepth 100000 in
set_option maxHeartbeats 2000000 in
theorem c_pivot (p B : Nat) (S : Nat → Prop) (eb rb n cap pl col : Nat) (M : List (List Int)) (w : World) (hp2 : 2 ≤ p) (h2 : p ≤ 1073741824) (hn : n ≤ 1000) (hpl : pl < n)
    (hE : Blk w eb 185 #[.int .i64 (p : Int), .slice (some ⟨rb, 0, none⟩) n cap]) (hR : RowsI w B S rb n cap M) (hSn : ∀ b, w.heap.size ≤ b → S b) (hBw : B ≤ w.heap.size)
    (hM : ∀ k, k < n → col < (M.getD k []).length ∧ (M.getD k []).length ≤ 1000 ∧ InF p (M.getD k [])) :
    Calls Tryz.prog 199 #[.pointer (some ⟨eb, 0, none⟩), .int .i64 (pl : Int), .int .i64 (col : Int)] w (PivPost p B S eb rb n cap pl col M w) := by
  obtain ⟨i0, hi, hz0, hz1, hz2⟩ := info_parts infoR
  have hmx : Tryz.prog.follows .mixedOrders = true := by kernel_rfl
  have hroom := hR.room
  have hrl := hR.lt
  have hel := hE.lt
  have hne : eb ≠ rb := by
    intro e
    obtain ⟨us, h1, _⟩ := hR
    exact own_blk_ne h1 hE (by decide) (by simp [Value.ownBlock, e])
  have hsl := fun (W : World) => run_slice_lo (P := Tryz.prog) W 157 24 i0 1 Tryz.underlying157 hi hz1 (some ⟨rb, 0, none⟩) n cap pl (by omega) hroom (pl : Int) rfl
  have hadd : (if cap = pl then (some ⟨rb, 0, none⟩ : Option Addr) else some ((⟨rb, 0, none⟩ : Addr).add (pl * 1))) = some ⟨rb, pl, none⟩ := by
    rw [if_neg (by omega)]
    unfold Addr.add
    split <;> simp_all
  have hsub : subA (some ⟨rb, 0, none⟩) cap pl 1 = some ⟨rb, pl, none⟩ := hadd
  simp only [hsub] at hsl
  have e0 : w.cell? ⟨eb, 0, none⟩ = some (.int .i64 (p : Int)) := hE.cell 0
  have e1 : w.cell? ⟨eb, 1, none⟩ = some (.slice (some ⟨rb, 0, none⟩) n cap) := hE.cell 1
  have hbw : Below w.heap.size w (w.alloc (.cells #[.int .i64 (col : Int)] 3)) := (Below.refl _ _).alloc (Nat.le_refl _) _
  have hR1 := hR.below hbw
  have hcbx : (w.alloc (.cells #[.int .i64 (col : Int)] 3)).cell? ⟨w.heap.size, 0, none⟩ = some (.int .i64 (col : Int)) := by rw [World.cell?_alloc_new]; rfl
  have hix := c_IndexFunc w.heap.size col (n - pl) (cap - pl) B (some ⟨rb, pl, none⟩) (fun j => M.getD (pl + j) []) (w.alloc (.cells #[.int .i64 (col : Int)] 3)) (by omega) (by omega) hcbx
    (fun _ => ⟨rb, pl, rfl, fun j hj => by
      obtain ⟨u, h3, h4, _⟩ := hR1.at_ (k := pl + j) (by omega)
      exact ⟨u, h3, h4, (hM (pl + j) (by omega)).1⟩⟩)
  have HIX := Lib.hid hix
  have HR1 := Lib.hid hR1
  have HM := Lib.hid hM
  have HBW := Lib.hid hbw
  have e0' := (hbw.cell (p := ⟨eb, 0, none⟩) hel).trans e0
  have e1' := (hbw.cell (p := ⟨eb, 1, none⟩) hel).trans e1
  have hsz1 : (w.alloc (.cells #[.int .i64 (col : Int)] 3)).heap.size = w.heap.size + 1 := by simp
  clear hix hR1 hM hbw hadd hsub hR hE e0 e1
  go_enter Tryz.func199, Tryz.ntmps199
  go_wp2_with fail
  refine HIX.out.mono ?_
  rintro e w' ⟨r, rfl, hr, rfl⟩
  rcases hr with ⟨rfl, hz⟩ | ⟨j, hj, rfl, hnz⟩
  · go_wp2_with fail
    go_ret
    refine .inl ⟨rfl, fun k h1 h3 => ?_, HBW.out⟩
    have := hz (k - pl) (by omega)
    rwa [show pl + (k - pl) = k by omega] at this
  · have hk : pl + j < n := by omega
    generalize (w.alloc (.cells #[.int .i64 (col : Int)] 3)) = w1 at *
    obtain ⟨vP, hcP, hoP, sP⟩ := HR1.out.at_ (k := pl) hpl
    obtain ⟨vK, hcK, hoK, sK⟩ := HR1.out.at_ (k := pl + j) hk
    have hMP := HM.out pl hpl
    have hMK := HM.out (pl + j) hk
    have hput1 := HR1.out.put (k := pl) hpl hoK sK
    have hput2 := hput1.1.put (k := pl + j) hk (hoP.kept hput1.2 (HR1.out.apart hoP)) sP
    have hoK2 := (hoK.kept hput1.2 (HR1.out.apart hoK)).kept hput2.2 (hput1.1.apart (hoK.kept hput1.2 (HR1.out.apart hoK)))
    have hfr1 := HR1.out.frozen pl
    have hfr2 := HR1.out.frozen (pl + j)
    obtain ⟨y2, hy2⟩ : ∃ y2, (w1.setCell ⟨rb, pl, none⟩ vK).cell? ⟨rb, pl + j, none⟩ = some y2 := by
      obtain ⟨u, hu, _⟩ := hput1.1.at_ (k := pl + j) hk
      exact ⟨u, hu⟩
    rcases hoP.form with ⟨_, h0⟩ | ⟨gP, capP, rfl, hcapP⟩
    · rw [h0] at hMP; simp at hMP
    rcases hoK.form with ⟨_, h0⟩ | ⟨gK, cK, rfl, hcapK⟩
    · rw [h0] at hMK; simp at hMK
    have cy := hoK2.cell col hMK.1
    have fy := hMK.2.2.get (by omega : 1 ≤ p) col
    obtain ⟨y, hy⟩ : ∃ y, (M.getD (pl + j) []).getD col 0 = y := ⟨_, rfl⟩
    obtain ⟨lK, hlK⟩ : ∃ lK, (M.getD (pl + j) []).length = lK := ⟨_, rfl⟩
    obtain ⟨lP, hlP⟩ : ∃ lP, (M.getD pl []).length = lP := ⟨_, rfl⟩
    have hnz' : (M.getD (pl + j) []).getD col 0 ≠ 0 := hnz
    rw [hy] at cy fy hnz'
    rw [hlK] at hcK hoK2 hy2 hput1 hput2 cy
    rw [hlP] at hcP hput2 hoK2 cy
    have q0 : (0 : Int) ≤ (pl : Int) + (j : Int) := by omega
    have q1 : (pl : Int) + (j : Int) < (n : Int) := by omega
    have q2 : ((pl : Int) + (j : Int)).toNat = pl + j := by omega
    have q3 : (0 : Int) ≤ (pl : Int) := by omega
    have q4 : (pl : Int) < (n : Int) := by omega
    have wq : IntKind.i64.wrap ((pl : Int) + (j : Int)) = (pl : Int) + (j : Int) := IntWalk.i64_in _ ⟨by omega, by omega⟩
    have qj : ¬ (j : Int) < 0 := by omega
    have hP1 := hput1.1
    have hg12 : w1.grownBy ((w1.setCell ⟨rb, pl, none⟩ (.slice (some ⟨gK, 0, none⟩) lK cK)).setCell ⟨rb, pl + j, none⟩ (.slice (some ⟨gP, 0, none⟩) lP capP)) (some rb) := World.grownBy.trans hput1.2 hput2.2
    have HP2 := Lib.hid hput2.1
    have HG12 := Lib.hid hg12
    have HOK2 := Lib.hid hoK2
    have HY := Lib.hid hy
    have HLK := Lib.hid hlK
    have hfrr : ∀ u, (w1.setCell ⟨rb, pl, none⟩ u).frozen? ⟨rb, pl + j, none⟩ = false := fun u => by rw [World.frozen?_setCell]; exact hfr2
    clear hy hlK hlP hP1 hg12 hoK2 hput1 hput2 hoP hoK sP sK hnz hMP hMK hcapP hcapK
    go_wp2_with fail
    go_region
    have cP2 : ((w1.setCell ⟨rb, pl, none⟩ (.slice (some ⟨gK, 0, none⟩) lK cK)).setCell ⟨rb, pl + j, none⟩ (.slice (some ⟨gP, 0, none⟩) lP capP)).cell? ⟨rb, pl, none⟩ = some (.slice (some ⟨gK, 0, none⟩) lK cK) := by
      by_cases hj0 : j = 0
      · subst hj0
        have e : some (Value.slice (some ⟨gP, 0, none⟩) lP capP) = some (Value.slice (some ⟨gK, 0, none⟩) lK cK) := hcP.symm.trans hcK
        injection e with e
        rw [e]
        exact World.cell?_setCell_same' _ ⟨rb, pl + 0, none⟩ _ (by rw [hy2]; rfl)
      · rw [World.cell?_setCell_other _ _ _ _ (by intro e; injection e; omega)]
        exact World.cell?_setCell_same' _ _ _ (by rw [hcP]; rfl)
    have k0 := (World.cell?_of_block (a := ⟨eb, 0, none⟩) (HG12.out.block eb (by omega) (by intro e; injection e; omega))).trans e0'
    have k1 := (World.cell?_of_block (a := ⟨eb, 1, none⟩) (HG12.out.block eb (by omega) (by intro e; injection e; omega))).trans e1'
    have kb := (World.cell?_of_block (a := ⟨w.heap.size, 0, none⟩) (HG12.out.block w.heap.size (by omega) (by intro e; injection e; omega))).trans hcbx
    have hs2 := HG12.out.size
    have hgt : w.grownBy ((w1.setCell ⟨rb, pl, none⟩ (.slice (some ⟨gK, 0, none⟩) lK cK)).setCell ⟨rb, pl + j, none⟩ (.slice (some ⟨gP, 0, none⟩) lP capP)) (some rb) := World.grownBy.trans (only_of_below HBW.out _) HG12.out
    have HGT := Lib.hid hgt
    clear hgt HG12 HR1 HIX HBW hcP hcK hy2 hfrr hfr1 hfr2 e0' e1' hcbx
    generalize ((w1.setCell ⟨rb, pl, none⟩ (.slice (some ⟨gK, 0, none⟩) lK cK)).setCell ⟨rb, pl + j, none⟩ (.slice (some ⟨gP, 0, none⟩) lP capP)) = w2 at *
    have d0 : w2.drew.cell? ⟨eb, 0, none⟩ = some (.int .i64 (p : Int)) := k0
    have d1 : w2.drew.cell? ⟨eb, 1, none⟩ = some (.slice (some ⟨rb, 0, none⟩) n cap) := k1
    have db : w2.drew.cell? ⟨w.heap.size, 0, none⟩ = some (.int .i64 (col : Int)) := kb
    have dP : w2.drew.cell? ⟨rb, pl, none⟩ = some (.slice (some ⟨gK, 0, none⟩) lK cK) := cP2
    have dy : w2.drew.cell? ⟨gK, col, none⟩ = some (.int .i64 y) := cy
    have qc0 : (0 : Int) ≤ (col : Int) := by omega
    have qc1 : (col : Int) < (lK : Int) := by have := (HM.out (pl + j) hk).1; have := HLK.out; omega
    go_wp2_with fail
    go_quiet ((go_at_call 165; refine (f_Inverse p y _ hp2 (by omega) (by omega) (by omega)).mono ?_; rintro e w' ⟨rfl, rfl⟩; exact ⟨rfl, _, rfl⟩))
    have hiv := invP_bd p y hp2
    have hP3 : RowsI (w2.drew.drewN nq) B S rb n cap ((M.set pl (M.getD (pl + j) [])).set (pl + j) (M.getD pl [])) := HP2.out
    have hO3 : OwnI (w2.drew.drewN nq) B (.slice (some ⟨gK, 0, none⟩) lK cK) (M.getD (pl + j) []) := HOK2.out
    have hg3 : w.grownBy (w2.drew.drewN nq) (some rb) := only_drewN (only_drewN HGT.out 1) nq
    have e0 : (w2.drew.drewN nq).cell? ⟨eb, 0, none⟩ = some (.int .i64 (p : Int)) := k0
    have e1 : (w2.drew.drewN nq).cell? ⟨eb, 1, none⟩ = some (.slice (some ⟨rb, 0, none⟩) n cap) := k1
    have cP : (w2.drew.drewN nq).cell? ⟨rb, pl, none⟩ = some (.slice (some ⟨gK, 0, none⟩) lK cK) := cP2
    have hsz3 : w1.heap.size ≤ (w2.drew.drewN nq).heap.size := hs2
    clear d0 d1 db dP dy k0 k1 kb cP2 cy hs2 HP2 HOK2 HGT
    generalize (w2.drew.drewN nq) = w3 at *
    have hebl : eb < w3.drew.heap.size := by show eb < w3.heap.size; omega
    have hrbl : rb < w3.drew.heap.size := by show rb < w3.heap.size; omega
    have hfr3 : w3.drew.frozen? ⟨rb, pl, none⟩ = false := hP3.frozen pl
    have hmk := HM.out (pl + j) hk
    have hO3d : OwnI w3.drew B (.slice (some ⟨gK, 0, none⟩) lK cK) (M.getD (pl + j) []) := hO3
    have hlin := f_Linear p (.slice none 0 0) (.slice (some ⟨gK, 0, none⟩) lK cK) [] (M.getD (pl + j) []) (invP p y) (fun _ => False) _ w3.drew (by omega) h2 hiv.1 (by omega) ⟨none, 0, 0, rfl, rfl, Nat.le_refl _, fun h => absurd h (Nat.lt_irrefl 0)⟩ (fun b hb => hb.elim) hO3d.ints (fun q hq => hq.2) (by simp) (by omega) (InF.nil p) hmk.2.2
    have HLIN := Lib.hid hlin
    have HP3 := Lib.hid hP3
    have HG3 := Lib.hid hg3
    clear hlin hP3 hg3 hO3 hO3d hmk
    obtain ⟨iv, hive⟩ : ∃ iv, invP p y = iv := ⟨_, rfl⟩
    rw [hive] at hiv HLIN ⊢
    have HIV := Lib.hid hive
    clear hive
    go_wp2_with fail
    refine wp_region_last_lit _ _ (fun W => W.cell? ⟨eb, 0, none⟩ = some (.int .i64 (p : Int)) ∧ W.cell? ⟨eb, 1, none⟩ = some (.slice (some ⟨rb, 0, none⟩) n cap) ∧ W.cell? ⟨rb, pl, none⟩ = some (.slice (some ⟨gK, 0, none⟩) lK cK)) hmx rfl (by kernel_rfl) ⟨e0, e1, cP⟩ (fun hS => ?_)
    simp only [List.dropLast]
    refine wpAnyH_take (i := 0) (v := ?_) rfl (by kernel_rfl) (by kernel_rfl) (by kernel_rfl) (fun _ _ _ h => h) (Or.inl ⟨by rfl, ?_⟩) (by assumption) ?_
    rotate_left
    · (intro w hSw; (try dsimp only at hSw); go_simp; try (with_reducible rfl))
    try simp only [Act.put, List.setIfInBounds_toArray, List.set_cons_zero, List.set_cons_succ]
    refine wpAnyH_take (i := 1) (v := ?_) rfl (by kernel_rfl) (by kernel_rfl) (by kernel_rfl) (fun _ _ _ h => h) (Or.inl ⟨by rfl, ?_⟩) (by assumption) ?_
    rotate_left
    · (intro w hSw; (try dsimp only at hSw); go_simp; try (with_reducible rfl))
    try simp only [Act.put, List.setIfInBounds_toArray, List.set_cons_zero, List.set_cons_succ]
    refine wpAnyH_take (i := 2) (v := ?_) rfl (by kernel_rfl) (by kernel_rfl) (by kernel_rfl) (fun _ _ _ h => h) (Or.inl ⟨by rfl, ?_⟩) (by assumption) ?_
    rotate_left
    · (intro w hSw; (try dsimp only at hSw); go_simp; try (with_reducible rfl))
    try simp only [Act.put, List.setIfInBounds_toArray, List.set_cons_zero, List.set_cons_succ]
    refine wpAnyH_take (i := 3) (v := ?_) rfl (by kernel_rfl) (by kernel_rfl) (by kernel_rfl) (fun _ _ _ h => h) (Or.inl ⟨by rfl, ?_⟩) (by assumption) ?_
    rotate_left
    · (intro w hSw; (try dsimp only at hSw); go_simp; try (with_reducible rfl))
    try simp only [Act.put, List.setIfInBounds_toArray, List.set_cons_zero, List.set_cons_succ]
    refine wpAnyH_take (i := 4) (v := ?_) rfl (by kernel_rfl) (by kernel_rfl) (by kernel_rfl) (fun _ _ _ h => h) (Or.inl ⟨by rfl, ?_⟩) (by assumption) ?_
    rotate_left
    · (intro w hSw; (try dsimp only at hSw); go_simp; try (with_reducible rfl))
    try simp only [Act.put, List.setIfInBounds_toArray, List.set_cons_zero, List.set_cons_succ]
    refine wpAnyH_take (i := 5) (v := ?_) rfl (by kernel_rfl) (by kernel_rfl) (by kernel_rfl) (fun _ _ _ h => h) (Or.inl ⟨by rfl, ?_⟩) (by assumption) ?_
    rotate_left
    · (intro w hSw; (try dsimp only at hSw); go_simp; try (with_reducible rfl))
    try simp only [Act.put, List.setIfInBounds_toArray, List.set_cons_zero, List.set_cons_succ]
    refine wpAnyH_take (i := 6) (v := ?_) rfl (by kernel_rfl) (by kernel_rfl) (by kernel_rfl) (fun _ _ _ h => h) (Or.inl ⟨by rfl, ?_⟩) (by assumption) ?_
    rotate_left
    · (intro w hSw; (try dsimp only at hSw); go_simp; try (with_reducible rfl))
    try simp only [Act.put, List.setIfInBounds_toArray, List.set_cons_zero, List.set_cons_succ]
    refine wpAnyH_take (i := 7) (v := ?_) rfl (by kernel_rfl) (by kernel_rfl) (by kernel_rfl) (fun _ _ _ h => h) (Or.inl ⟨by rfl, ?_⟩) (by assumption) ?_
    rotate_left
    · (intro w hSw; (try dsimp only at hSw); go_simp; try (with_reducible rfl))
    try simp only [Act.put, List.setIfInBounds_toArray, List.set_cons_zero, List.set_cons_succ]
    refine wpAnyH_take (i := 8) (v := ?_) rfl (by kernel_rfl) (by kernel_rfl) (by kernel_rfl) (fun _ _ _ h => h) (Or.inl ⟨by rfl, ?_⟩) (by assumption) ?_
    rotate_left
    · (intro w hSw; (try dsimp only at hSw); go_simp; try (with_reducible rfl))
    try simp only [Act.put, List.setIfInBounds_toArray, List.set_cons_zero, List.set_cons_succ]
    refine wpAnyH_take (i := 9) (v := ?_) rfl (by kernel_rfl) (by kernel_rfl) (by kernel_rfl) (fun _ _ _ h => h) (Or.inl ⟨by rfl, ?_⟩) (by assumption) ?_
    rotate_left
    · (intro w hSw; (try dsimp only at hSw); go_simp; try (with_reducible rfl))
    try simp only [Act.put, List.setIfInBounds_toArray, List.set_cons_zero, List.set_cons_succ]
    refine wpAnyH_take (i := 10) (v := ?_) rfl (by kernel_rfl) (by kernel_rfl) (by kernel_rfl) (fun _ _ _ h => h) (Or.inl ⟨by rfl, ?_⟩) (by assumption) ?_
    rotate_left
    · (intro w hSw; (try dsimp only at hSw); go_simp; try (with_reducible rfl))
    try simp only [Act.put, List.setIfInBounds_toArray, List.set_cons_zero, List.set_cons_succ]
    refine wpAnyH_take (i := 11) (v := ?_) rfl (by kernel_rfl) (by kernel_rfl) (by kernel_rfl) (fun _ _ _ h => h) (Or.inl ⟨by rfl, ?_⟩) (by assumption) ?_
    rotate_left
    · (intro w hSw; (try dsimp only at hSw); go_simp; try (with_reducible rfl))
    try simp only [Act.put, List.setIfInBounds_toArray, List.set_cons_zero, List.set_cons_succ]
    refine wpAnyH_take (i := 12) (v := ?_) rfl (by kernel_rfl) (by kernel_rfl) (by kernel_rfl) (fun _ _ _ h => h) (Or.inl ⟨by rfl, ?_⟩) (by assumption) ?_
    rotate_left
    · (intro w hSw; (try dsimp only at hSw); go_simp; try (with_reducible rfl))
    try simp only [Act.put, List.setIfInBounds_toArray, List.set_cons_zero, List.set_cons_succ]
    refine wpAnyH_take (i := 13) (v := ?_) rfl (by kernel_rfl) (by kernel_rfl) (by kernel_rfl) (fun _ _ _ h => h) (Or.inl ⟨by rfl, ?_⟩) (by assumption) ?_
    rotate_left
    · (intro w hSw; (try dsimp only at hSw); go_simp; try (with_reducible rfl))
    try simp only [Act.put, List.setIfInBounds_toArray, List.set_cons_zero, List.set_cons_succ]
    refine wpAnyH_take (i := 14) (v := ?_) rfl (by kernel_rfl) (by kernel_rfl) (by kernel_rfl) (fun _ _ _ h => h) (Or.inl ⟨by rfl, ?_⟩) (by assumption) ?_
    rotate_left
    · (intro w hSw; (try dsimp only at hSw); go_simp; try (with_reducible rfl))
    try simp only [Act.put, List.setIfInBounds_toArray, List.set_cons_zero, List.set_cons_succ]
    refine wpAnyH_take (i := 15) (v := ?_) rfl (by kernel_rfl) (by kernel_rfl) (by kernel_rfl) (fun _ _ _ h => h) (Or.inl ⟨by rfl, ?_⟩) (by assumption) ?_
    rotate_left
    · (intro w hSw; (try dsimp only at hSw); go_simp; try (with_reducible rfl))
    try simp only [Act.put, List.setIfInBounds_toArray, List.set_cons_zero, List.set_cons_succ]
    refine wpAnyH_take (i := 16) (v := ?_) rfl (by kernel_rfl) (by kernel_rfl) (by kernel_rfl) (fun _ _ _ h => h) (Or.inl ⟨by rfl, ?_⟩) (by assumption) ?_
    rotate_left
    · (intro w hSw; (try dsimp only at hSw); go_simp; try (with_reducible rfl))
    try simp only [Act.put, List.setIfInBounds_toArray, List.set_cons_zero, List.set_cons_succ]
    refine wpAnyH_ready (rs := [17]) (by kernel_rfl) (by simp) ?_
    refine AllReadyH.cons rfl (fun K hK => ?_) AllReadyH.nil
    go_simp
    refine HLIN.out.mono ?_
    rintro e w6 ⟨v6, rfl, ho6, hb6⟩
    have k0 := (hb6.cell (p := ⟨eb, 0, none⟩) hebl).trans hS.1
    have k1 := (hb6.cell (p := ⟨eb, 1, none⟩) hebl).trans hS.2.1
    have k2 := (hb6.cell (p := ⟨rb, pl, none⟩) hrbl).trans hS.2.2
    have f6 := (hb6.frozen (p := ⟨rb, pl, none⟩) hrbl).trans hfr3
    obtain ⟨A6, l6, c6, rfl⟩ : ∃ A l c, v6 = .slice A l c := by rcases ho6.form with ⟨h, _⟩ | ⟨g, c, h, _⟩ <;> exact ⟨_, _, _, h⟩
    have HO6 := Lib.hid ho6
    have HB6 := Lib.hid hb6
    clear ho6 hb6
    refine hK.out _ _ (⟨k0, k1, k2⟩) (fun hHeld => ?_)
    clear hK K
    try simp only [Act.put, List.setIfInBounds_toArray, List.set_cons_zero, List.set_cons_succ]
    refine wpAnyH_take (i := 18) (v := ?_) rfl (by kernel_rfl) (by kernel_rfl) (by kernel_rfl) (fun _ _ _ h => h) (Or.inl ⟨by rfl, ?_⟩) (by assumption) ?_
    rotate_left
    · (intro w hSw; (try dsimp only at hSw); go_simp; try (with_reducible rfl))
    try simp only [Act.put, List.setIfInBounds_toArray, List.set_cons_zero, List.set_cons_succ]
    refine wpAnyH_done (by kernel_rfl) ?_ _
    refine lastQ_step (by rfl) (by rfl) ?_
    go_simp
    go_wp2_with fail
    go_ret
    have hP6 : RowsI w6 B S rb n cap _ := RowsI.below (w := w3.drew) HP3.out HB6.out
    have hput := hP6.put (k := pl) hpl (HO6.out.mono (show B ≤ w3.drew.heap.size by show B ≤ w3.heap.size; omega)) (Among.new HO6.out fun b hb => hSn b (by have : w3.heap.size ≤ b := hb; omega))
    refine .inr ⟨pl + j, by omega, hk, by rw [HY.out]; exact hnz', rfl, ?_, ?_⟩
    · unfold pivM
      rw [HY.out, HIV.out]
      exact hput.1
    · exact World.grownBy.trans (World.grownBy.trans HG3.out (World.grownBy.trans (only_drewN (World.grownBy.refl w3 _) 1) (only_of_below HB6.out _))) hput.2
end Go.Proofs.YtjfphobfikadlaaGreatDoor
