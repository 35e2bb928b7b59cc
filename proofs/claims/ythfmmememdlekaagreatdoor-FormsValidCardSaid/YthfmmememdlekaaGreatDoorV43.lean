/- What an argument that is a form holds: fields. Contracts: the first words of chapter 16's statements: awake. Contracts: awake. -/
import Derived.Test.YthfmmememdlekaaGreatDoorV07
import Derived.Test.YthfmmememdlekaaGreatDoorV26
import Derived.SliceStrings
import Derived.Test.YthfmmememdlekaaGreatDoorV24
import Derived.Test.YthfmmememdlekaaGreatDoorV05
set_option linter.unusedVariables false
set_option linter.unusedSimpArgs false
namespace Go.Proofs.YthfmmememdlekaaGreatDoor
open Go.ChangeShapes Go.WideShapes Go.RowKit

/-- What is said of each number and text of a field that was given. -/
def FldWide (f : Fld) : Prop := f.name.size ≤ maxLen ∧ f.opts.length ≤ maxLen ∧ (Lit.int .i64 f.kind).wf = true ∧ (Lit.int .i64 f.least).wf = true ∧ (Lit.int .i64 f.most).wf = true ∧ ∀ s ∈ f.opts, s.size ≤ maxLen
section
variable {H : Type} {enc : TypeId × Value → H} {P : Program} {w : World} {base : Nat} {spare : Nat → Bool} {held : Bool}
theorem texts_at_fact {t e : TypeId} {fuel : Nat} {v : Value} {x : DataW H × List MemPlace} (ht : P.underlying t = some (.slice e)) (he : P.underlying e = some .string) (hc : P.cellsOf e = 1)
    (h : DataW.trod enc P w 0 (fun _ => true) held fuel t [v] = some x) (hlt : ∀ p ∈ x.2, p.block < w.heap.size) :
    ∃ xs : List ByteArray, TxsAt w (· < w.heap.size) v xs ∧ xs.length ≤ maxLen ∧ ∀ a ∈ xs, a.size ≤ maxLen := by
  rcases Go.ChangeShapes.open_strings ht he hc h with ⟨hcs, hx⟩ | ⟨a, len, cap, zs, hcs, _, hl, hm, hz, hx, hcell, hwz⟩
  · simp at hcs
    exact ⟨[], ⟨none, 0, 0, hcs, rfl, Nat.le_refl _, fun h => absurd h (by omega)⟩, by simp, fun _ h => by cases h⟩
  · simp at hcs
    simp only [if_true] at hz
    subst hx
    have hlen : (zs.take len).length = len := by rw [List.length_take]; omega
    refine ⟨zs.take len, ⟨some a, len, cap, hcs, hlen.symm, hl, fun hn => ?_⟩, by omega, fun a ha => hwz a (List.mem_of_mem_take ha)⟩
    obtain ⟨b0, off, spot⟩ := a
    have hspot : spot = none := by simpa [Addr.add] using World.cell?_spot (hcell 0 (by omega))
    subst hspot
    refine ⟨b0, off, rfl, hlt (.cell b0 off) (MemPlace.mem_row.2 ⟨0, by omega, by simp⟩), fun i hi => ?_⟩
    have h1 := hcell i (by omega)
    rw [add_plain] at h1
    rw [h1, List.getD_eq_getElem?_getD, List.getD_eq_getElem?_getD, List.getElem?_take, if_pos hi]
    rfl
/-- The shape of a field's type. -/
structure FieldTy (P : Program) (te : TypeId) (f0 f1 f2 f3 f4 f5 : Field) (ei : TypeId) : Prop where
  un : P.underlying te = some (.struct #[f0, f1, f2, f3, f4, f5])
  off : f0.offset = 0 ∧ f1.offset = 1 ∧ f2.offset = 2 ∧ f3.offset = 3 ∧ f4.offset = 4 ∧ f5.offset = 5
  one : P.cellsOf f0.type = 1 ∧ P.cellsOf f1.type = 1 ∧ P.cellsOf f2.type = 1 ∧ P.cellsOf f3.type = 1 ∧ P.cellsOf f4.type = 1 ∧ P.cellsOf f5.type = 1
  six : P.cellsOf te = 6
  s0 : P.underlying f0.type = some .string
  i1 : P.underlying f1.type = some (.int .i64)
  b2 : P.underlying f2.type = some .bool
  i3 : P.underlying f3.type = some (.int .i64)
  i4 : P.underlying f4.type = some (.int .i64)
  l5 : P.underlying f5.type = some (.slice ei)
  ie : P.underlying ei = some .string
  ec : P.cellsOf ei = 1
theorem field_fact {te ei : TypeId} {f0 f1 f2 f3 f4 f5 : Field} (T : FieldTy P te f0 f1 f2 f3 f4 f5 ei) {a : Addr} {n : Nat} {cs : List Value} {y : DataW H × List MemPlace} (hc : w.cells? base a 6 = some cs)
    (h : DataW.trod enc P w 0 (fun _ => true) held n te cs = some y) (hlt : ∀ p ∈ y.2, p.block < w.heap.size) : ∃ b off t, a = ⟨b, off, none⟩ ∧ FldAt w (· < w.heap.size) b off t ∧ FldWide t := by
  obtain ⟨_, hlen, hcell⟩ := World.cells?_some hc
  obtain ⟨y0, y1, y2, y3, y4, y5, m, rfl, _, h0, h1, h2, h3, h4, h5⟩ := trod_struct6 T.un h
  obtain ⟨o0, o1, o2, o3, o4, o5⟩ := T.off
  obtain ⟨k0, k1, k2, k3, k4, k5⟩ := T.one
  rw [o0, k0] at h0
  rw [o1, k1] at h1
  rw [o2, k2] at h2
  rw [o3, k3] at h3
  rw [o4, k4] at h4
  rw [o5, k5] at h5
  match cs, hlen with
  | [c0, c1, c2, c3, c4, c5], _ =>
    obtain ⟨v0, e0, rfl, w0⟩ := DataW.trod_string T.s0 h0
    obtain ⟨v1, e1, rfl, w1⟩ := DataW.trod_int T.i1 h1
    obtain ⟨v2, e2, rfl⟩ := DataW.trod_bool T.b2 h2
    obtain ⟨v3, e3, rfl, w3⟩ := DataW.trod_int T.i3 h3
    obtain ⟨v4, e4, rfl, w4⟩ := DataW.trod_int T.i4 h4
    obtain ⟨xs, x1, x2, x3⟩ := texts_at_fact (v := c5) T.l5 T.ie T.ec h5 (fun p hp => hlt p (by simp [hp]))
    simp at e0 e1 e2 e3 e4
    subst e0 e1 e2 e3 e4
    obtain ⟨b, off, spot⟩ := a
    have hspot : spot = none := by simpa [Addr.add] using World.cell?_spot (hcell 0 (by omega))
    subst hspot
    have at_ : ∀ i v, i < 6 → [Value.string v0, .int .i64 v1, .bool v2, .int .i64 v3, .int .i64 v4, c5][i]? = some v → w.cell? ⟨b, off + i, none⟩ = some v := by
      intro i v hi hv
      have := hcell i hi
      rw [hv, add_plain] at this
      exact this
    exact ⟨b, off, ⟨v0, v1, v2, v3, v4, xs⟩, rfl, ⟨at_ 0 _ (by omega) rfl, at_ 1 _ (by omega) rfl, at_ 2 _ (by omega) rfl, at_ 3 _ (by omega) rfl, at_ 4 _ (by omega) rfl, c5, at_ 5 _ (by omega) rfl, x1⟩, w0, x2, w1, w3, w4, x3⟩
theorem form_fact {tc te ei : TypeId} {g0 g f0 f1 f2 f3 f4 f5 : Field} (T : FieldTy P te f0 f1 f2 f3 f4 f5 ei) (htc : P.underlying tc = some (.struct #[g0, g])) (go0 : g0.offset = 0) (go : g.offset = 1) (gc0 : P.cellsOf g0.type = 1) (gc : P.cellsOf g.type = 1) (ht1 : P.cellsOf tc = 2) (hg0 : P.underlying g0.type = some .string) (hg : P.underlying g.type = some (.slice te))
    {cs : Array Value} {d : DataW H} {ps : List MemPlace} (h : DataW.Trod enc P w 0 (fun _ => true) held tc (.agg cs) d ps) (hlt : ∀ p ∈ ps, p.block < w.heap.size) :
    ∃ s A n c L, cs = #[.string s, .slice A n c] ∧ FldsAt w (· < w.heap.size) (.slice A n c) L ∧ n ≤ maxLen ∧ s.size ≤ maxLen ∧ ∀ t ∈ L, FldWide t := by
  obtain ⟨fuel, hf⟩ := h
  obtain ⟨y0, y1, m, hx, hl, h0, h1⟩ := trod_struct2 htc hf
  rw [go0, gc0] at h0
  rw [go, gc] at h1
  rw [ht1] at hl
  have hcc : (Value.agg cs).cells.toList = cs.toList := rfl
  rw [hcc] at h0 h1 hl
  injection hx with hx1 hx2
  subst hx2
  match hcs : cs.toList, hl with
  | [v0, v], _ =>
    rw [hcs] at h0 h1
    have hcs' : cs = #[v0, v] := Array.toList_inj.1 hcs
    obtain ⟨s, e0, hy0, w0⟩ := DataW.trod_string hg0 h0
    simp at e0
    subst e0
    rcases Go.Deep.open_slice (cs := [v]) hg (by simpa using h1) with ⟨e, _⟩ | ⟨a, len, cap, k, q, D, Pl, e, _, hlc, hm, hk, hy, hel⟩
    · simp at e
      subst e
      exact ⟨s, none, 0, 0, [], hcs', ⟨none, 0, 0, rfl, rfl, Nat.le_refl _, fun h => absurd h (by omega)⟩, Nat.zero_le _, w0, fun _ h => by cases h⟩
    · simp at e
      subst e
      simp only [if_true] at hk
      subst hk
      have hpl : ∀ p ∈ (MemPlace.row a (k * P.cellsOf te) ++ (List.range k).flatMap Pl), p.block < w.heap.size := by
        intro p hp
        refine hlt p (List.mem_append_right _ ?_)
        rw [hy]; exact hp
      have each : ∀ i, i < k → ∃ bt : Nat × Nat × Fld, a.add (i * 6) = ⟨bt.1, bt.2.1, none⟩ ∧ FldAt w (· < w.heap.size) bt.1 bt.2.1 bt.2.2 ∧ FldWide bt.2.2 := by
        intro i hi
        obtain ⟨cs', c1, c2⟩ := hel i hi
        rw [T.six] at c1
        obtain ⟨b, off, t, z1, z2, z3⟩ := field_fact T c1 c2 (fun p hp => hpl p (List.mem_append_right _ (List.mem_flatMap.2 ⟨i, List.mem_range.2 hi, hp⟩)))
        exact ⟨(b, off, t), z1, z2, z3⟩
      haveI : Inhabited (Nat × Nat × Fld) := ⟨(0, 0, fld0)⟩
      obtain ⟨F, hF⟩ := Go.Deep.choose_lt each
      have hL : ((List.range len).map fun i => (F i).2.2).length = len := by simp
      refine ⟨s, some a, len, k, (List.range len).map fun i => (F i).2.2, hcs', ⟨some a, len, k, rfl, hL.symm, hlc, fun hn => ?_⟩, by omega, w0, fun t ht => ?_⟩
      · obtain ⟨z1, z2, _⟩ := hF 0 (by omega)
        have ha0 : a = ⟨(F 0).1, (F 0).2.1, none⟩ := by simpa [Addr.add] using z1
        refine ⟨(F 0).1, (F 0).2.1, congrArg some ha0, ?_, fun j hj => ?_⟩
        · refine hpl (.cell (F 0).1 (F 0).2.1) (List.mem_append_left _ (MemPlace.mem_row.2 ⟨0, by rw [T.six]; omega, ?_⟩))
          rw [ha0]
          rfl
        · obtain ⟨y1, y2, _⟩ := hF j (by omega)
          rw [ha0, add_plain] at y1
          injection y1 with q1 q2
          have ej : fldAt ((List.range len).map fun i => (F i).2.2) j = (F j).2.2 := by simp [fldAt, List.getD, hj]
          rw [ej, q2, q1]
          exact y2
      · obtain ⟨i, hi, rfl⟩ := List.mem_map.1 ht
        exact (hF i (by have := List.mem_range.1 hi; omega)).2.2
end
theorem form_arg {H : Type} {enc : TypeId × Value → H} {w : World} {held : Bool} {cs : Array Value} {d : DataW H} {ps : List MemPlace} (h : DataW.Trod enc Tryz.prog w 0 (fun _ => true) held 55 (.agg cs) d ps) (hlt : ∀ p ∈ ps, p.block < w.heap.size) :
    ∃ s A n c L, cs = #[.string s, .slice A n c] ∧ FldsAt w (· < w.heap.size) (.slice A n c) L ∧ n ≤ maxLen ∧ s.size ≤ maxLen ∧ ∀ t ∈ L, FldWide t :=
  form_fact ⟨Tryz.underlying58, ⟨rfl, rfl, rfl, rfl, rfl, rfl⟩, ⟨by kernel_rfl, by kernel_rfl, by kernel_rfl, by kernel_rfl, by kernel_rfl, by kernel_rfl⟩, by kernel_rfl, Tryz.underlying9, Tryz.underlying3, Tryz.underlying4, Tryz.underlying3, Tryz.underlying3, Tryz.underlying56, Tryz.underlying9, by kernel_rfl⟩
    Tryz.underlying55 rfl rfl (by kernel_rfl) (by kernel_rfl) (by kernel_rfl) Tryz.underlying9 Tryz.underlying53 h hlt
end Go.Proofs.YthfmmememdlekaaGreatDoor
namespace Go.Proofs.YthfmmememdlekaaGreatDoor
open Go.RowKit Num

def awkS : ByteArray := ⟨#[97, 108, 108, 40, 114, 101, 112, 111, 114, 116, 101, 114, 115, 32, 51, 44, 32, 97, 110, 121, 40, 100, 101, 112, 97, 114, 116, 109, 101, 110, 116, 115, 32, 50, 44, 32, 121, 101, 97, 114, 115, 32, 53, 32, 111, 102, 32, 50, 41, 41]⟩
theorem awk_plain : ((parseC (blOf awkS)).1.length, (parseC (blOf awkS)).2) = (5, ((0 : Int), (0 : Int))) := by kernel_rfl
theorem awk_what : nameB (blOf ⟨#[119, 104, 97, 116]⟩) = true := by kernel_rfl
theorem awk_all : nameB (blOf ⟨#[97, 108, 108]⟩) = false := by kernel_rfl
theorem awk_size : awkS.size ≤ 100000000 := by show 50 ≤ 100000000; omega
def AwkParse (w : World) (e : Ending) (w' : World) : Prop := ∃ A c, e = .returned (.tuple #[.agg #[.slice A 5 c], .int .i64 0, .int .i64 0]) ∧ Below w.heap.size w w'
theorem f_Parse_awk (w : World) (hl : LibOk w) : Calls Tryz.prog 30 #[.string awkS] w (AwkParse w) := by
  have h := f_Parse awkS w awk_size hl
  have hp := awk_plain
  generalize parseC (blOf awkS) = x at h hp
  obtain ⟨L, p, n⟩ := x
  simp only [Prod.mk.injEq] at hp
  obtain ⟨h5, rfl, rfl⟩ := hp
  refine h.mono ?_
  rintro e w1 ⟨v, rfl, ⟨A, n, c, rfl, hn, -⟩, hb1⟩
  simp only at hn
  rw [h5] at hn
  subst hn
  exact ⟨A, c, rfl, hb1⟩
end Go.Proofs.YthfmmememdlekaaGreatDoor
namespace Go.Proofs.YthfmmememdlekaaGreatDoor
open Go.RowKit Num

def AwkEnd (w : World) (e : Ending) (w' : World) : Prop := e = .returned (.bool true) ∧ Below w.heap.size w w'
theorem f_Name_what (w : World) : Calls Tryz.prog 28 #[.string ⟨#[119, 104, 97, 116]⟩] w (BoolBel true w) := by
  have h := f_Name ⟨#[119, 104, 97, 116]⟩ w (by show 4 ≤ _; omega)
  rwa [awk_what] at h
theorem f_Name_all (w : World) : Calls Tryz.prog 28 #[.string ⟨#[97, 108, 108]⟩] w (BoolBel false w) := by
  have h := f_Name ⟨#[97, 108, 108]⟩ w (by show 3 ≤ _; omega)
  rwa [awk_all] at h
set_option maxRecDepth 100000 in
set_option maxHeartbeats 400000 in
theorem f_awake (w : World) (hl : LibOk w) : Calls Tryz.prog 7 #[] w (AwkEnd w) := by
  have HL := Lib.hid hl
  clear hl
  go_enter Tryz.func7, Tryz.ntmps7
  go_wp2_with fail
  refine (f_Parse_awk _ HL.out).mono ?_
  rintro e w1 ⟨A, c, rfl, hb1⟩
  have HB1 := Lib.hid hb1
  have hs1 := hb1.size
  clear hb1
  have c1d : (w1.alloc (.cells #[.slice A 5 c] 25)).drew.cell? ⟨w1.heap.size, 0, none⟩ = some (.slice A 5 c) := World.cell?_alloc_new w1 _ _ _
  have KS := Lib.hid (fun (W : World) (hW : Below (w1.heap.size + 1) (w1.alloc (.cells #[.slice A 5 c] 25)) W) => (⟨(hW.cell (p := ⟨w1.heap.size, 0, none⟩) (by simp)).trans (World.cell?_alloc_new w1 _ _ _), Lib.hid hW⟩ : W.cell? ⟨w1.heap.size, 0, none⟩ = some (.slice A 5 c) ∧ Hid (Below (w1.heap.size + 1) (w1.alloc (.cells #[.slice A 5 c] 25)) W)))
  go_wp2_with fail
  refine (f_Name_what _).mono ?_
  rintro e w2 ⟨rfl, hb2⟩
  have hs2 := hb2.size
  have HB2 := Lib.hid (HB1.out.trans (((Below.refl w1.heap.size w1).alloc (Nat.le_refl _) (.cells #[.slice A 5 c] 25)).trans (hb2.mono (by simp))|>.mono hs1))
  clear hb2
  go_wp2_with fail
  refine (f_Name_all _).mono ?_
  rintro e w3 ⟨rfl, hb3⟩
  have HB3 := Lib.hid (HB2.out.trans (hb3.mono (by simp at hs2; omega)))
  clear hb3
  go_wp2_with fail
  go_ret
  exact ⟨rfl, HB3.out⟩
end Go.Proofs.YthfmmememdlekaaGreatDoor
