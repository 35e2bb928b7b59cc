/- Words for memory: a list of terms of one's own whose arguments lie elsewhere (a copy of a list of terms). What a slice of ints that is read as data gives. What an argument that is a condition holds: terms. Slices of slices: their value under one name. -/
import Derived.Test.YthfmmememdlekaaGreatDoorV25
import Derived.Deep.Slices
import Derived.Test.YthfmmememdlekaaGreatDoorV03
import Derived.ProofKit
import Derived.SizedLaws
import Derived.Test.YthfmmememdlekaaGreatDoorV06
import Derived.ChangeArms
import Derived.ChangeSame
set_option linter.unusedVariables false
set_option linter.unusedSimpArgs false
namespace Go.Proofs.YthfmmememdlekaaGreatDoor
open Go.RowKit Num

structure OwnTr (w : World) (B : Nat) (S : Nat → Prop) (v : Value) (L : List Trm) (us : Nat → Value) : Prop where
  row : w.ownsRow B 29 6 v L.length (tmsC L us)
  args : ∀ k, k < L.length → IntsAt w S (us k) (trmAt L k).args
theorem OwnTr.terms {w : World} {B : Nat} {S : Nat → Prop} {v : Value} {L : List Trm} {us : Nat → Value} (h : OwnTr w B S v L us) : TermsAt w (fun b => S b ∨ (B ≤ b ∧ b < w.heap.size)) v L := by
  rcases Nat.eq_zero_or_pos L.length with h0 | h0
  · rcases h.row.2 with ⟨rfl, _⟩ | ⟨g', cap, cur, rfl, _, _, h2, _⟩
    · exact ⟨none, 0, 0, rfl, h0.symm, by omega, fun h1 => absurd h1 (by omega)⟩
    · exact ⟨_, L.length, cap, rfl, rfl, h2, fun h1 => absurd h1 (by omega)⟩
  · obtain ⟨g, c, rfl, hg, hlt⟩ := h.row.form h0
    refine ⟨some ⟨g, 0, none⟩, L.length, c, rfl, rfl, ?_, fun _ => ⟨g, 0, rfl, .inr ⟨hg, hlt⟩, fun k hk => ?_⟩⟩
    · rcases h.row.2 with ⟨h1, _⟩ | ⟨g', cap, cur, h1, _, _, h2, _⟩
      · cases h1
      · injection h1 with _ _ h1; omega
    · have hc : ∀ i u, i < 6 → (tmCell (trmAt L k) (us k)).getD i undef = u → w.cell? ⟨g, 0 + k * 6 + i, none⟩ = some u := by
        intro i u hi hu
        rw [Nat.zero_add]
        exact own_cell h.row (k * 6 + i) u (by rw [tmsC_at L us k i hk hi, hu])
      exact ⟨hc 0 _ (by decide) rfl, hc 1 _ (by decide) rfl, hc 2 _ (by decide) rfl, hc 3 _ (by decide) rfl, hc 4 _ (by decide) rfl, us k, hc 5 _ (by decide) rfl, (h.args k hk).mono fun b hb => .inl hb⟩
/-- The cells of a list of terms, as an append reads them. -/
theorem terms_src {w : World} {S : Nat → Prop} {b off n c : Nat} {L : List Trm} (h : TermsAt w S (.slice (some ⟨b, off, none⟩) n c) L) :
    ∃ us : Nat → Value, (∀ k, k < L.length → IntsAt w S (us k) (trmAt L k).args) ∧ ∀ j u, (tmsC L us)[j]? = some u → w.cell? ((⟨b, off, none⟩ : Addr).add j) = some u := by
  obtain ⟨A, n', c', he, hn, hnc, h4⟩ := h
  injection he with e1 e2 e3
  subst e2 e3
  have hk : ∀ k, k < L.length → ∃ u, w.cell? ⟨b, off + k * 6 + 5, none⟩ = some u ∧ IntsAt w S u (trmAt L k).args ∧ TermAt w S b (off + k * 6) (trmAt L k) := by
    intro k hk
    obtain ⟨b', off', hA, hS, hc⟩ := h4 (by omega)
    rw [← e1] at hA
    injection hA with hA; injection hA with a1 a2
    subst a1 a2
    have hT := hc k (by omega)
    obtain ⟨u, q1, q2⟩ := hT.2.2.2.2.2
    exact ⟨u, q1, q2, hT⟩
  haveI : Inhabited Value := ⟨undef⟩
  obtain ⟨us, hus⟩ := Go.Deep.choose_lt hk
  refine ⟨us, fun k hk => (hus k hk).2.1, fun j u hj => ?_⟩
  have hjl : j < 6 * L.length := by
    have := (List.getElem?_eq_some_iff.1 hj).1
    rw [tmsC_len] at this; omega
  rw [tmsC_get L us j hjl] at hj
  injection hj with hj
  obtain ⟨q1, q2, c0, c1, c2, c3, c4, -⟩ := hus (j / 6) (by omega)
  have ea : (⟨b, off, none⟩ : Addr).add j = ⟨b, off + j / 6 * 6 + j % 6, none⟩ := by rw [Go.WideShapes.add_plain, show off + j / 6 * 6 + j % 6 = off + j by omega]
  rw [ea, ← hj]
  obtain ⟨i, hi, hi6⟩ : ∃ i, j % 6 = i ∧ i < 6 := ⟨_, rfl, by omega⟩
  rw [hi]
  match i, hi6 with
  | 0, _ => exact c0
  | 1, _ => exact c1
  | 2, _ => exact c2
  | 3, _ => exact c3
  | 4, _ => exact c4
  | 5, _ => exact q1
theorem tmsC_one {w : World} {S : Nat → Prop} {L : List Trm} {us : Nat → Value} (h : ∀ k, k < L.length → IntsAt w S (us k) (trmAt L k).args) : ∀ u ∈ tmsC L us, u.oneCell' = true := by
  intro u hu
  obtain ⟨j, hj⟩ := List.getElem?_of_mem hu
  have hjl : j < 6 * L.length := by
    have := (List.getElem?_eq_some_iff.1 hj).1
    rw [tmsC_len] at this; omega
  rw [tmsC_get L us j hjl] at hj
  injection hj with hj
  rw [← hj]
  obtain ⟨A, n, c, e, -⟩ := h (j / 6) (by omega)
  rw [e]
  obtain ⟨i, hi, hi6⟩ : ∃ i, j % 6 = i ∧ i < 6 := ⟨_, rfl, by omega⟩
  rw [hi]
  match i, hi6 with
  | 0, _ | 1, _ | 2, _ | 3, _ | 4, _ | 5, _ => rfl
theorem trmAt_set (L : List Trm) (k j : Nat) (t : Trm) (h : k < L.length) : trmAt (L.set k t) j = if j = k then t else trmAt L j := by
  unfold trmAt
  rw [List.getD_eq_getElem?_getD, List.getElem?_set]
  by_cases e : k = j
  · subst e; simp [h]
  · rw [if_neg e, if_neg (fun e' => e e'.symm), List.getD_eq_getElem?_getD]
theorem tmsC_store (L : List Trm) (us : Nat → Value) (k i : Nat) (t' : Trm) (u' v : Value) (h : k < L.length) (hi : i < 6) (e : (tmCell (trmAt L k) (us k)).set i v = tmCell t' u') :
    (tmsC L us).set (k * 6 + i) v = tmsC (L.set k t') (fun j => if j = k then u' else us j) := by
  apply List.ext_getElem?
  intro q
  have hlen : (L.set k t').length = L.length := List.length_set ..
  rw [List.getElem?_set]
  rcases Nat.lt_or_ge q (6 * L.length) with hq | hq
  · rw [tmsC_get L us q hq, tmsC_get (L.set k t') _ q (by rw [hlen]; exact hq), trmAt_set L k _ t' h, tmsC_len]
    by_cases ek : q / 6 = k
    · rw [if_pos ek]
      simp only [ek, if_true]
      rw [← e]
      obtain ⟨j, hj, hj6⟩ : ∃ j, q % 6 = j ∧ j < 6 := ⟨_, rfl, by omega⟩
      rw [hj]
      by_cases eij : k * 6 + i = q
      · have : i = j := by omega
        subst this
        rw [if_pos eij, if_pos (by omega)]
        have hlt : i < (tmCell (trmAt L k) (us k)).length := hi
        rw [List.getD_eq_getElem?_getD, List.getElem?_set_self hlt]
        rfl
      · rw [if_neg eij]
        have hne : i ≠ j := by omega
        rw [List.getD_eq_getElem?_getD, List.getD_eq_getElem?_getD, List.getElem?_set_ne hne]
    · rw [if_neg ek, if_neg ek, if_neg (by omega)]
  · rw [tmsC_none L us q hq, tmsC_none (L.set k t') _ q (by rw [hlen]; exact hq), if_neg (by omega)]
theorem OwnTr.mono {w : World} {B : Nat} {S T : Nat → Prop} {v : Value} {L : List Trm} {us : Nat → Value} (h : OwnTr w B S v L us) (hS : ∀ b, S b → T b) : OwnTr w B T v L us :=
  ⟨h.row, fun k hk => (h.args k hk).mono hS⟩
/-- One cell of one term is written. -/
theorem OwnTr.store {w : World} {B g cap : Nat} {S : Nat → Prop} {L : List Trm} {us : Nat → Value} (h : OwnTr w B S (.slice (some ⟨g, 0, none⟩) L.length cap) L us) {k i : Nat} (hk : k < L.length) (hi : i < 6) (t' : Trm) (u' v : Value)
    (e : (tmCell (trmAt L k) (us k)).set i v = tmCell t' u') (hu : IntsAt w S u' t'.args) (hS : ∀ b, S b → b < w.heap.size ∧ b ≠ g) :
    OwnTr (w.setCell ⟨g, k * 6 + i, none⟩ v) B S (.slice (some ⟨g, 0, none⟩) L.length cap) (L.set k t') (fun j => if j = k then u' else us j) ∧ w.grownBy (w.setCell ⟨g, k * 6 + i, none⟩ v) (some g) := by
  have st := World.ownsRow.stored h.row (k * 6 + i) v
  have keep : ∀ b, S b → (w.setCell ⟨g, k * 6 + i, none⟩ v).heap[b]? = w.heap[b]? := fun b hb => st.2.block b (hS b hb).1 (fun e => (hS b hb).2 (Option.some.inj e))
  refine ⟨⟨?_, fun j hj => ?_⟩, st.2⟩
  · rw [List.length_set, ← tmsC_store L us k i t' u' v hk hi e]; exact st.1
  · rw [List.length_set] at hj
    rw [trmAt_set L k j t' hk]
    by_cases ej : j = k
    · simp only [ej, if_true]; exact hu.keep keep
    · simp only [ej, if_false]; exact (h.args j hj).keep keep
end Go.Proofs.YthfmmememdlekaaGreatDoor
namespace Go.Proofs.YthfmmememdlekaaGreatDoor
open Go.ChangeShapes Go.WideShapes Go.ChangeAt Go.RowKit

theorem ints_fact {H : Type} {enc : TypeId × Value → H} {W : World} {t e : TypeId} {a : Option Addr} {n c : Nat} {d : DataW H} {p : List MemPlace} (ht : Tryz.prog.underlying t = some (.slice e)) (he : Tryz.prog.underlying e = some (.int .i64)) (hc : Tryz.prog.cellsOf e = 1)
    (h : DataW.Trod enc Tryz.prog W 0 (fun _ => true) true t (.slice a n c) d p) (hlt : ∀ x ∈ p, x.block < W.heap.size) :
    n ≤ 9223372036854775807 ∧ (n ≤ 500 → ArgL W (.slice a n c)) := by
  obtain ⟨fu, hf⟩ := h
  rcases open_ints ht he hc hf with ⟨hcs, hx⟩ | ⟨b, len', cap', zs, hcs, _, hl, hm, hz, hx, hcell, hwz⟩
  · simp [Value.cells] at hcs
    obtain ⟨rfl, rfl, rfl⟩ := hcs
    exact ⟨by omega, fun _ => ⟨none, 0, 0, fun _ => 0, rfl, by omega, fun h => absurd h (by omega)⟩⟩
  · simp [Value.cells] at hcs
    obtain ⟨rfl, rfl, rfl⟩ := hcs
    simp only [Prod.mk.injEq] at hx
    obtain ⟨rfl, rfl⟩ := hx
    simp only [if_true] at hz
    unfold maxLen at hm
    refine ⟨by omega, fun h5 => ⟨some b, n, c, fun i => zs.getD i 0, rfl, h5, fun hn => ?_⟩⟩
    obtain ⟨b0, off, spot⟩ := b
    have hspot : spot = none := by simpa [Addr.add] using World.cell?_spot (hcell 0 (by omega))
    subst hspot
    refine ⟨b0, off, rfl, hlt (.cell b0 off) (MemPlace.mem_row.2 ⟨0, by omega, by simp⟩), fun i hi => ?_⟩
    rw [← add_plain]; exact hcell i (by omega)
end Go.Proofs.YthfmmememdlekaaGreatDoor
namespace Go.Proofs.YthfmmememdlekaaGreatDoor
open Go.ChangeShapes Go.WideShapes Go.RowKit

/-- What is said of each number and text of a term that was given. -/
def TrmWide (t : Trm) : Prop := t.field.size ≤ maxLen ∧ t.text.size ≤ maxLen ∧ t.args.length ≤ maxLen ∧ (Lit.int .i64 t.kind).wf = true ∧ (Lit.int .i64 t.num).wf = true ∧ (Lit.int .i64 t.yrs).wf = true ∧ ∀ a ∈ t.args, (Lit.int .i64 a).wf = true

section
variable {H : Type} {enc : TypeId × Value → H} {P : Program} {w : World} {base : Nat} {spare : Nat → Bool} {held : Bool}

theorem ints_at_fact {t e : TypeId} {fuel : Nat} {v : Value} {x : DataW H × List MemPlace} (ht : P.underlying t = some (.slice e)) (he : P.underlying e = some (.int .i64)) (hc : P.cellsOf e = 1)
    (h : DataW.trod enc P w 0 (fun _ => true) held fuel t [v] = some x) (hlt : ∀ p ∈ x.2, p.block < w.heap.size) :
    ∃ xs : List Int, IntsAt w (· < w.heap.size) v xs ∧ xs.length ≤ maxLen ∧ ∀ a ∈ xs, (Lit.int .i64 a).wf = true := by
  rcases open_ints ht he hc h with ⟨hcs, hx⟩ | ⟨a, len, cap, zs, hcs, _, hl, hm, hz, hx, hcell, hwz⟩
  · simp at hcs
    exact ⟨[], ⟨none, 0, 0, hcs, rfl, Nat.le_refl _, fun h => absurd h (by omega)⟩, by simp, fun _ h => by cases h⟩
  · simp at hcs
    simp only [if_true] at hz
    subst hx
    have hlen : (zs.take len).length = len := by rw [List.length_take]; omega
    refine ⟨zs.take len, ⟨some a, len, cap, hcs, hlen.symm, hl, fun hn => ?_⟩, by omega, fun a ha => hwz a (List.mem_of_mem_take ha)⟩
    obtain ⟨b0, off, spot⟩ := a
    have hspot : spot = none := by simpa [Addr.add] using World.cell?_spot (hcell 0 (by omega))
    subst hspot
    refine ⟨b0, off, rfl, hlt (.cell b0 off) (MemPlace.mem_row.2 ⟨0, by omega, by simp⟩), fun i hi => ?_⟩
    have h1 := hcell i (by omega)
    rw [add_plain] at h1
    rw [h1]
    simp [List.getD, List.getElem?_take, hi]

theorem trod_struct6 {t : TypeId} {f0 f1 f2 f3 f4 f5 : Field} {fuel : Nat} {cs : List Value} {x : DataW H × List MemPlace} (ht : P.underlying t = some (.struct #[f0, f1, f2, f3, f4, f5])) (h : DataW.trod enc P w base spare held fuel t cs = some x) :
    ∃ y0 y1 y2 y3 y4 y5 n, x = (.agg [y0.1, y1.1, y2.1, y3.1, y4.1, y5.1], y0.2 ++ (y1.2 ++ (y2.2 ++ (y3.2 ++ (y4.2 ++ y5.2))))) ∧ cs.length = P.cellsOf t ∧ DataW.trod enc P w base spare held n f0.type ((cs.drop f0.offset).take (P.cellsOf f0.type)) = some y0 ∧
      DataW.trod enc P w base spare held n f1.type ((cs.drop f1.offset).take (P.cellsOf f1.type)) = some y1 ∧ DataW.trod enc P w base spare held n f2.type ((cs.drop f2.offset).take (P.cellsOf f2.type)) = some y2 ∧
      DataW.trod enc P w base spare held n f3.type ((cs.drop f3.offset).take (P.cellsOf f3.type)) = some y3 ∧ DataW.trod enc P w base spare held n f4.type ((cs.drop f4.offset).take (P.cellsOf f4.type)) = some y4 ∧
      DataW.trod enc P w base spare held n f5.type ((cs.drop f5.offset).take (P.cellsOf f5.type)) = some y5 := by
  obtain ⟨xs, n, _, rfl, hl, hlen, hf⟩ := DataW.trod_struct ht h
  match xs, hlen with
  | [y0, y1, y2, y3, y4, y5], _ => exact ⟨y0, y1, y2, y3, y4, y5, n, by simp, hl, by simpa using hf 0 f0 rfl, by simpa using hf 1 f1 rfl, by simpa using hf 2 f2 rfl, by simpa using hf 3 f3 rfl, by simpa using hf 4 f4 rfl, by simpa using hf 5 f5 rfl⟩

/-- The shape of a term's type. -/
structure TermTy (P : Program) (te : TypeId) (f0 f1 f2 f3 f4 f5 : Field) (ei : TypeId) : Prop where
  un : P.underlying te = some (.struct #[f0, f1, f2, f3, f4, f5])
  off : f0.offset = 0 ∧ f1.offset = 1 ∧ f2.offset = 2 ∧ f3.offset = 3 ∧ f4.offset = 4 ∧ f5.offset = 5
  one : P.cellsOf f0.type = 1 ∧ P.cellsOf f1.type = 1 ∧ P.cellsOf f2.type = 1 ∧ P.cellsOf f3.type = 1 ∧ P.cellsOf f4.type = 1 ∧ P.cellsOf f5.type = 1
  six : P.cellsOf te = 6
  i0 : P.underlying f0.type = some (.int .i64)
  i1 : P.underlying f1.type = some (.int .i64)
  i2 : P.underlying f2.type = some (.int .i64)
  s3 : P.underlying f3.type = some .string
  s4 : P.underlying f4.type = some .string
  l5 : P.underlying f5.type = some (.slice ei)
  ie : P.underlying ei = some (.int .i64)
  ec : P.cellsOf ei = 1

theorem term_fact {te ei : TypeId} {f0 f1 f2 f3 f4 f5 : Field} (T : TermTy P te f0 f1 f2 f3 f4 f5 ei) {a : Addr} {n : Nat} {cs : List Value} {y : DataW H × List MemPlace} (hc : w.cells? base a 6 = some cs)
    (h : DataW.trod enc P w 0 (fun _ => true) held n te cs = some y) (hlt : ∀ p ∈ y.2, p.block < w.heap.size) : ∃ b off t, a = ⟨b, off, none⟩ ∧ TermAt w (· < w.heap.size) b off t ∧ TrmWide t := by
  obtain ⟨_, hlen, hcell⟩ := World.cells?_some hc
  obtain ⟨y0, y1, y2, y3, y4, y5, m, rfl, _, h0, h1, h2, h3, h4, h5⟩ := trod_struct6 T.un h
  obtain ⟨o0, o1, o2, o3, o4, o5⟩ := T.off
  obtain ⟨k0, k1, k2, k3, k4, k5⟩ := T.one
  rw [o0, k0] at h0
  rw [o1, k1] at h1
  rw [o2, k2] at h2
  rw [o3, k3] at h3
  rw [o4, k4] at h4
  rw [o5, k5] at h5
  match cs, hlen with
  | [c0, c1, c2, c3, c4, c5], _ =>
    obtain ⟨v0, e0, rfl, w0⟩ := DataW.trod_int T.i0 h0
    obtain ⟨v1, e1, rfl, w1⟩ := DataW.trod_int T.i1 h1
    obtain ⟨v2, e2, rfl, w2⟩ := DataW.trod_int T.i2 h2
    obtain ⟨v3, e3, rfl, w3⟩ := DataW.trod_string T.s3 h3
    obtain ⟨v4, e4, rfl, w4⟩ := DataW.trod_string T.s4 h4
    obtain ⟨xs, x1, x2, x3⟩ := ints_at_fact (v := c5) T.l5 T.ie T.ec h5 (fun p hp => hlt p (by simp [hp]))
    simp at e0 e1 e2 e3 e4
    subst e0 e1 e2 e3 e4
    obtain ⟨b, off, spot⟩ := a
    have hspot : spot = none := by simpa [Addr.add] using World.cell?_spot (hcell 0 (by omega))
    subst hspot
    have at_ : ∀ i v, i < 6 → [Value.int .i64 v0, .int .i64 v1, .int .i64 v2, .string v3, .string v4, c5][i]? = some v → w.cell? ⟨b, off + i, none⟩ = some v := by
      intro i v hi hv
      have := hcell i hi
      rw [hv, add_plain] at this
      exact this
    exact ⟨b, off, ⟨v0, v1, v2, v3, v4, xs⟩, rfl, ⟨at_ 0 _ (by omega) rfl, at_ 1 _ (by omega) rfl, at_ 2 _ (by omega) rfl, at_ 3 _ (by omega) rfl, at_ 4 _ (by omega) rfl, c5, at_ 5 _ (by omega) rfl, x1⟩, w3, w4, x2, w0, w1, w2, x3⟩

theorem cond_fact {tc te ei : TypeId} {g f0 f1 f2 f3 f4 f5 : Field} (T : TermTy P te f0 f1 f2 f3 f4 f5 ei) (htc : P.underlying tc = some (.struct #[g])) (go : g.offset = 0) (gc : P.cellsOf g.type = 1) (ht1 : P.cellsOf tc = 1) (hg : P.underlying g.type = some (.slice te))
    {cs : Array Value} {d : DataW H} {ps : List MemPlace} (h : DataW.Trod enc P w 0 (fun _ => true) held tc (.agg cs) d ps) (hlt : ∀ p ∈ ps, p.block < w.heap.size) :
    ∃ A n c L, cs = #[.slice A n c] ∧ TermsAt w (· < w.heap.size) (.slice A n c) L ∧ n ≤ maxLen ∧ ∀ t ∈ L, TrmWide t := by
  obtain ⟨fuel, hf⟩ := h
  obtain ⟨y0, m, hx, hl, h0⟩ := trod_struct1 htc hf
  rw [go, gc] at h0
  rw [ht1] at hl
  have hcc : (Value.agg cs).cells.toList = cs.toList := rfl
  rw [hcc] at h0 hl
  injection hx with hx1 hx2
  subst hx2
  match hcs : cs.toList, hl with
  | [v], _ =>
    rw [hcs] at h0
    have hcs' : cs = #[v] := Array.toList_inj.1 hcs
    rcases Go.Deep.open_slice (cs := [v]) hg (by simpa using h0) with ⟨e, _⟩ | ⟨a, len, cap, k, q, D, Pl, e, _, hlc, hm, hk, hy, hel⟩
    · simp at e
      subst e
      exact ⟨none, 0, 0, [], hcs', ⟨none, 0, 0, rfl, rfl, Nat.le_refl _, fun h => absurd h (by omega)⟩, Nat.zero_le _, fun _ h => by cases h⟩
    · simp at e
      subst e
      simp only [if_true] at hk
      subst hk
      have hpl : ∀ p ∈ (MemPlace.row a (k * P.cellsOf te) ++ (List.range k).flatMap Pl), p.block < w.heap.size := by rw [hy] at hlt; exact hlt
      have each : ∀ i, i < k → ∃ bt : Nat × Nat × Trm, a.add (i * 6) = ⟨bt.1, bt.2.1, none⟩ ∧ TermAt w (· < w.heap.size) bt.1 bt.2.1 bt.2.2 ∧ TrmWide bt.2.2 := by
        intro i hi
        obtain ⟨cs', c1, c2⟩ := hel i hi
        rw [T.six] at c1
        obtain ⟨b, off, t, z1, z2, z3⟩ := term_fact T c1 c2 (fun p hp => hpl p (List.mem_append_right _ (List.mem_flatMap.2 ⟨i, List.mem_range.2 hi, hp⟩)))
        exact ⟨(b, off, t), z1, z2, z3⟩
      haveI : Inhabited (Nat × Nat × Trm) := ⟨(0, 0, trm0)⟩
      obtain ⟨F, hF⟩ := Go.Deep.choose_lt each
      have hL : ((List.range len).map fun i => (F i).2.2).length = len := by simp
      refine ⟨some a, len, k, (List.range len).map fun i => (F i).2.2, hcs', ⟨some a, len, k, rfl, hL.symm, hlc, fun hn => ?_⟩, by omega, fun t ht => ?_⟩
      · obtain ⟨z1, z2, _⟩ := hF 0 (by omega)
        have ha0 : a = ⟨(F 0).1, (F 0).2.1, none⟩ := by simpa [Addr.add] using z1
        refine ⟨(F 0).1, (F 0).2.1, congrArg some ha0, ?_, fun j hj => ?_⟩
        · refine hpl (.cell (F 0).1 (F 0).2.1) (List.mem_append_left _ (MemPlace.mem_row.2 ⟨0, by rw [T.six]; omega, ?_⟩))
          rw [ha0]
          rfl
        · obtain ⟨y1, y2, _⟩ := hF j (by omega)
          rw [ha0, add_plain] at y1
          injection y1 with q1 q2
          have ej : trmAt ((List.range len).map fun i => (F i).2.2) j = (F j).2.2 := by simp [trmAt, List.getD, hj]
          rw [ej, q2, q1]
          exact y2
      · obtain ⟨i, hi, rfl⟩ := List.mem_map.1 ht
        exact (hF i (by have := List.mem_range.1 hi; omega)).2.2
end
theorem cond_arg {H : Type} {enc : TypeId × Value → H} {w : World} {held : Bool} {cs : Array Value} {d : DataW H} {ps : List MemPlace} (h : DataW.Trod enc Tryz.prog w 0 (fun _ => true) held 25 (.agg cs) d ps) (hlt : ∀ p ∈ ps, p.block < w.heap.size) :
    ∃ A n c L, cs = #[.slice A n c] ∧ TermsAt w (· < w.heap.size) (.slice A n c) L ∧ n ≤ maxLen ∧ ∀ t ∈ L, TrmWide t :=
  cond_fact ⟨Tryz.underlying29, ⟨rfl, rfl, rfl, rfl, rfl, rfl⟩, ⟨by kernel_rfl, by kernel_rfl, by kernel_rfl, by kernel_rfl, by kernel_rfl, by kernel_rfl⟩, by kernel_rfl, Tryz.underlying3, Tryz.underlying3, Tryz.underlying3, Tryz.underlying9, Tryz.underlying9, Tryz.underlying22, Tryz.underlying3, by kernel_rfl⟩
    Tryz.underlying25 rfl (by kernel_rfl) (by kernel_rfl) Tryz.underlying23 h hlt
end Go.Proofs.YthfmmememdlekaaGreatDoor
namespace Go.Proofs.YthfmmememdlekaaGreatDoor
open Go.RowKit Num
/-- The head of a slice of a slice. -/
def subA (A : Option Addr) (cap k size : Nat) : Option Addr := if cap = k then A else A.map (·.add (k * size))
section
variable {P : Program} (w : World) (t e : TypeId) (i : TypeInfo) (size : Nat)
theorem run_slice_lohi (ht : P.underlying t = some (.slice e)) (hi : P.info? e = some i) (hz : i.size = size) (A : Option Addr) (n c lo hg : Nat) (h1 : lo ≤ hg) (h2 : hg ≤ c) (x y : Int) (hx : x = (lo : Int)) (hy : y = (hg : Int)) :
    (Instr.slice t (.slice A n c) (some (.int .i64 x)) (some (.int .i64 y)) none).run P w = .ok (.slice (subA A c lo size) (hg - lo) (c - lo)) w := by
  subst hx hy hz
  have e1 : (0 : Int) ≤ (hg : Int) ∧ (hg : Int) ≤ (c : Int) := by omega
  have e2 : (0 : Int) ≤ (lo : Int) ∧ (lo : Int) ≤ (hg : Int) := by omega
  simp [Instr.slice, run_underlying ht, Instr.sliceBounds, Instr.sliceBound, asIntOf, sizeOf, typeInfo, hi, subA, go_sem, h1, h2]
theorem run_slice_hi (ht : P.underlying t = some (.slice e)) (hi : P.info? e = some i) (A : Option Addr) (n c hg : Nat) (h2 : hg ≤ c) (y : Int) (hy : y = (hg : Int)) :
    (Instr.slice t (.slice A n c) none (some (.int .i64 y)) none).run P w = .ok (.slice A hg c) w := by
  subst hy
  have e1 : (0 : Int) ≤ (hg : Int) ∧ (hg : Int) ≤ (c : Int) := by omega
  simp [Instr.slice, run_underlying ht, Instr.sliceBounds, Instr.sliceBound, asIntOf, sizeOf, typeInfo, hi, go_sem, h2]
theorem run_slice_lo (ht : P.underlying t = some (.slice e)) (hi : P.info? e = some i) (hz : i.size = size) (A : Option Addr) (n c lo : Nat) (h1 : lo ≤ n) (h2 : n ≤ c) (x : Int) (hx : x = (lo : Int)) :
    (Instr.slice t (.slice A n c) (some (.int .i64 x)) none none).run P w = .ok (.slice (subA A c lo size) (n - lo) (c - lo)) w := by
  subst hx hz
  have e2 : (0 : Int) ≤ (lo : Int) ∧ (lo : Int) ≤ (n : Int) := by omega
  simp [Instr.slice, run_underlying ht, Instr.sliceBounds, Instr.sliceBound, asIntOf, sizeOf, typeInfo, hi, subA, go_sem, h1]
end
theorem Reads.sub {w : World} {B size n : Nat} {A : Option Addr} {xs : List Value} (h : Reads w B size A n xs) {lo hg cap : Nat} (h1 : lo ≤ hg) (h2 : hg ≤ n) (hc : n ≤ cap) :
    Reads w B size (subA A cap lo size) (hg - lo) ((xs.drop (lo * size)).take ((hg - lo) * size)) := by
  refine ⟨?_, fun hn => ?_⟩
  · rw [List.length_take, List.length_drop, h.1, ← Nat.sub_mul]
    exact Nat.min_eq_left (Nat.mul_le_mul_right size (by omega))
  obtain ⟨ad, rfl, hb, hcell⟩ := h.2 (by omega)
  unfold subA
  rw [if_neg (by omega)]
  refine ⟨ad.add (lo * size), rfl, by rw [block_of_add]; exact hb, fun j u hu => ?_⟩
  rw [add_of_add]
  rw [List.getElem?_take] at hu
  split at hu
  · exact hcell _ u (by rw [← hu, List.getElem?_drop])
  · cases hu
end Go.Proofs.YthfmmememdlekaaGreatDoor
