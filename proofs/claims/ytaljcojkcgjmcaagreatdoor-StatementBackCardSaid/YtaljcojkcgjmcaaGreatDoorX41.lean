/- What an argument that is a condition holds: terms. Words for memory: what the kit's OddCondition keeps while it changes a copy of a list of terms. -/
import Derived.Test.YtaljcojkcgjmcaaGreatDoorX06
import Derived.Test.YtaljcojkcgjmcaaGreatDoorX40
import Derived.Deep.Slices
import Derived.ProofKit
import Derived.ChangeArms
import Derived.ChangeSame
import Derived.Test.YtaljcojkcgjmcaaGreatDoorX35
set_option linter.unusedVariables false
set_option linter.unusedSimpArgs false
namespace Go.Proofs.YtaljcojkcgjmcaaGreatDoor
open Go.ChangeShapes Go.WideShapes Go.RowKit

/-- What is said of each number and text of a term that was given. -/
def TrmWide (t : Trm) : Prop := t.field.size ≤ maxLen ∧ t.text.size ≤ maxLen ∧ t.args.length ≤ maxLen ∧ (Lit.int .i64 t.kind).wf = true ∧ (Lit.int .i64 t.num).wf = true ∧ (Lit.int .i64 t.yrs).wf = true ∧ ∀ a ∈ t.args, (Lit.int .i64 a).wf = true

section
variable {H : Type} {enc : TypeId × Value → H} {P : Program} {w : World} {base : Nat} {spare : Nat → Bool} {held : Bool}

theorem ints_at_fact {t e : TypeId} {fuel : Nat} {v : Value} {x : DataW H × List MemPlace} (ht : P.underlying t = some (.slice e)) (he : P.underlying e = some (.int .i64)) (hc : P.cellsOf e = 1)
    (h : DataW.trod enc P w 0 (fun _ => true) held fuel t [v] = some x) (hlt : ∀ p ∈ x.2, p.block < w.heap.size) :
    ∃ xs : List Int, IntsAt w (· < w.heap.size) v xs ∧ xs.length ≤ maxLen ∧ ∀ a ∈ xs, (Lit.int .i64 a).wf = true := by
  rcases open_ints ht he hc h with ⟨hcs, hx⟩ | ⟨a, len, cap, zs, hcs, _, hl, hm, hz, hx, hcell, hwz⟩
  · simp at hcs
    exact ⟨[], ⟨none, 0, 0, hcs, rfl, Nat.le_refl _, fun h => absurd h (by omega)⟩, by simp, fun _ h => by cases h⟩
  · simp at hcs
    simp only [if_true] at hz
    subst hx
    have hlen : (zs.take len).length = len := by rw [List.length_take]; omega
    refine ⟨zs.take len, ⟨some a, len, cap, hcs, hlen.symm, hl, fun hn => ?_⟩, by omega, fun a ha => hwz a (List.mem_of_mem_take ha)⟩
    obtain ⟨b0, off, spot⟩ := a
    have hspot : spot = none := by simpa [Addr.add] using World.cell?_spot (hcell 0 (by omega))
    subst hspot
    refine ⟨b0, off, rfl, hlt (.cell b0 off) (MemPlace.mem_row.2 ⟨0, by omega, by simp⟩), fun i hi => ?_⟩
    have h1 := hcell i (by omega)
    rw [add_plain] at h1
    rw [h1]
    simp [List.getD, List.getElem?_take, hi]

theorem trod_struct6 {t : TypeId} {f0 f1 f2 f3 f4 f5 : Field} {fuel : Nat} {cs : List Value} {x : DataW H × List MemPlace} (ht : P.underlying t = some (.struct #[f0, f1, f2, f3, f4, f5])) (h : DataW.trod enc P w base spare held fuel t cs = some x) :
    ∃ y0 y1 y2 y3 y4 y5 n, x = (.agg [y0.1, y1.1, y2.1, y3.1, y4.1, y5.1], y0.2 ++ (y1.2 ++ (y2.2 ++ (y3.2 ++ (y4.2 ++ y5.2))))) ∧ cs.length = P.cellsOf t ∧ DataW.trod enc P w base spare held n f0.type ((cs.drop f0.offset).take (P.cellsOf f0.type)) = some y0 ∧
      DataW.trod enc P w base spare held n f1.type ((cs.drop f1.offset).take (P.cellsOf f1.type)) = some y1 ∧ DataW.trod enc P w base spare held n f2.type ((cs.drop f2.offset).take (P.cellsOf f2.type)) = some y2 ∧
      DataW.trod enc P w base spare held n f3.type ((cs.drop f3.offset).take (P.cellsOf f3.type)) = some y3 ∧ DataW.trod enc P w base spare held n f4.type ((cs.drop f4.offset).take (P.cellsOf f4.type)) = some y4 ∧
      DataW.trod enc P w base spare held n f5.type ((cs.drop f5.offset).take (P.cellsOf f5.type)) = some y5 := by
  obtain ⟨xs, n, _, rfl, hl, hlen, hf⟩ := DataW.trod_struct ht h
  match xs, hlen with
  | [y0, y1, y2, y3, y4, y5], _ => exact ⟨y0, y1, y2, y3, y4, y5, n, by simp, hl, by simpa using hf 0 f0 rfl, by simpa using hf 1 f1 rfl, by simpa using hf 2 f2 rfl, by simpa using hf 3 f3 rfl, by simpa using hf 4 f4 rfl, by simpa using hf 5 f5 rfl⟩

/-- The shape of a term's type. -/
structure TermTy (P : Program) (te : TypeId) (f0 f1 f2 f3 f4 f5 : Field) (ei : TypeId) : Prop where
  un : P.underlying te = some (.struct #[f0, f1, f2, f3, f4, f5])
  off : f0.offset = 0 ∧ f1.offset = 1 ∧ f2.offset = 2 ∧ f3.offset = 3 ∧ f4.offset = 4 ∧ f5.offset = 5
  one : P.cellsOf f0.type = 1 ∧ P.cellsOf f1.type = 1 ∧ P.cellsOf f2.type = 1 ∧ P.cellsOf f3.type = 1 ∧ P.cellsOf f4.type = 1 ∧ P.cellsOf f5.type = 1
  six : P.cellsOf te = 6
  i0 : P.underlying f0.type = some (.int .i64)
  i1 : P.underlying f1.type = some (.int .i64)
  i2 : P.underlying f2.type = some (.int .i64)
  s3 : P.underlying f3.type = some .string
  s4 : P.underlying f4.type = some .string
  l5 : P.underlying f5.type = some (.slice ei)
  ie : P.underlying ei = some (.int .i64)
  ec : P.cellsOf ei = 1

theorem term_fact {te ei : TypeId} {f0 f1 f2 f3 f4 f5 : Field} (T : TermTy P te f0 f1 f2 f3 f4 f5 ei) {a : Addr} {n : Nat} {cs : List Value} {y : DataW H × List MemPlace} (hc : w.cells? base a 6 = some cs)
    (h : DataW.trod enc P w 0 (fun _ => true) held n te cs = some y) (hlt : ∀ p ∈ y.2, p.block < w.heap.size) : ∃ b off t, a = ⟨b, off, none⟩ ∧ TermAt w (· < w.heap.size) b off t ∧ TrmWide t := by
  obtain ⟨_, hlen, hcell⟩ := World.cells?_some hc
  obtain ⟨y0, y1, y2, y3, y4, y5, m, rfl, _, h0, h1, h2, h3, h4, h5⟩ := trod_struct6 T.un h
  obtain ⟨o0, o1, o2, o3, o4, o5⟩ := T.off
  obtain ⟨k0, k1, k2, k3, k4, k5⟩ := T.one
  rw [o0, k0] at h0
  rw [o1, k1] at h1
  rw [o2, k2] at h2
  rw [o3, k3] at h3
  rw [o4, k4] at h4
  rw [o5, k5] at h5
  match cs, hlen with
  | [c0, c1, c2, c3, c4, c5], _ =>
    obtain ⟨v0, e0, rfl, w0⟩ := DataW.trod_int T.i0 h0
    obtain ⟨v1, e1, rfl, w1⟩ := DataW.trod_int T.i1 h1
    obtain ⟨v2, e2, rfl, w2⟩ := DataW.trod_int T.i2 h2
    obtain ⟨v3, e3, rfl, w3⟩ := DataW.trod_string T.s3 h3
    obtain ⟨v4, e4, rfl, w4⟩ := DataW.trod_string T.s4 h4
    obtain ⟨xs, x1, x2, x3⟩ := ints_at_fact (v := c5) T.l5 T.ie T.ec h5 (fun p hp => hlt p (by simp [hp]))
    simp at e0 e1 e2 e3 e4
    subst e0 e1 e2 e3 e4
    obtain ⟨b, off, spot⟩ := a
    have hspot : spot = none := by simpa [Addr.add] using World.cell?_spot (hcell 0 (by omega))
    subst hspot
    have at_ : ∀ i v, i < 6 → [Value.int .i64 v0, .int .i64 v1, .int .i64 v2, .string v3, .string v4, c5][i]? = some v → w.cell? ⟨b, off + i, none⟩ = some v := by
      intro i v hi hv
      have := hcell i hi
      rw [hv, add_plain] at this
      exact this
    exact ⟨b, off, ⟨v0, v1, v2, v3, v4, xs⟩, rfl, ⟨at_ 0 _ (by omega) rfl, at_ 1 _ (by omega) rfl, at_ 2 _ (by omega) rfl, at_ 3 _ (by omega) rfl, at_ 4 _ (by omega) rfl, c5, at_ 5 _ (by omega) rfl, x1⟩, w3, w4, x2, w0, w1, w2, x3⟩

theorem cond_fact {tc te ei : TypeId} {g f0 f1 f2 f3 f4 f5 : Field} (T : TermTy P te f0 f1 f2 f3 f4 f5 ei) (htc : P.underlying tc = some (.struct #[g])) (go : g.offset = 0) (gc : P.cellsOf g.type = 1) (ht1 : P.cellsOf tc = 1) (hg : P.underlying g.type = some (.slice te))
    {cs : Array Value} {d : DataW H} {ps : List MemPlace} (h : DataW.Trod enc P w 0 (fun _ => true) held tc (.agg cs) d ps) (hlt : ∀ p ∈ ps, p.block < w.heap.size) :
    ∃ A n c L, cs = #[.slice A n c] ∧ TermsAt w (· < w.heap.size) (.slice A n c) L ∧ n ≤ maxLen ∧ ∀ t ∈ L, TrmWide t := by
  obtain ⟨fuel, hf⟩ := h
  obtain ⟨y0, m, hx, hl, h0⟩ := trod_struct1 htc hf
  rw [go, gc] at h0
  rw [ht1] at hl
  have hcc : (Value.agg cs).cells.toList = cs.toList := rfl
  rw [hcc] at h0 hl
  injection hx with hx1 hx2
  subst hx2
  match hcs : cs.toList, hl with
  | [v], _ =>
    rw [hcs] at h0
    have hcs' : cs = #[v] := Array.toList_inj.1 hcs
    rcases Go.Deep.open_slice (cs := [v]) hg (by simpa using h0) with ⟨e, _⟩ | ⟨a, len, cap, k, q, D, Pl, e, _, hlc, hm, hk, hy, hel⟩
    · simp at e
      subst e
      exact ⟨none, 0, 0, [], hcs', ⟨none, 0, 0, rfl, rfl, Nat.le_refl _, fun h => absurd h (by omega)⟩, Nat.zero_le _, fun _ h => by cases h⟩
    · simp at e
      subst e
      simp only [if_true] at hk
      subst hk
      have hpl : ∀ p ∈ (MemPlace.row a (k * P.cellsOf te) ++ (List.range k).flatMap Pl), p.block < w.heap.size := by rw [hy] at hlt; exact hlt
      have each : ∀ i, i < k → ∃ bt : Nat × Nat × Trm, a.add (i * 6) = ⟨bt.1, bt.2.1, none⟩ ∧ TermAt w (· < w.heap.size) bt.1 bt.2.1 bt.2.2 ∧ TrmWide bt.2.2 := by
        intro i hi
        obtain ⟨cs', c1, c2⟩ := hel i hi
        rw [T.six] at c1
        obtain ⟨b, off, t, z1, z2, z3⟩ := term_fact T c1 c2 (fun p hp => hpl p (List.mem_append_right _ (List.mem_flatMap.2 ⟨i, List.mem_range.2 hi, hp⟩)))
        exact ⟨(b, off, t), z1, z2, z3⟩
      haveI : Inhabited (Nat × Nat × Trm) := ⟨(0, 0, trm0)⟩
      obtain ⟨F, hF⟩ := Go.Deep.choose_lt each
      have hL : ((List.range len).map fun i => (F i).2.2).length = len := by simp
      refine ⟨some a, len, k, (List.range len).map fun i => (F i).2.2, hcs', ⟨some a, len, k, rfl, hL.symm, hlc, fun hn => ?_⟩, by omega, fun t ht => ?_⟩
      · obtain ⟨z1, z2, _⟩ := hF 0 (by omega)
        have ha0 : a = ⟨(F 0).1, (F 0).2.1, none⟩ := by simpa [Addr.add] using z1
        refine ⟨(F 0).1, (F 0).2.1, congrArg some ha0, ?_, fun j hj => ?_⟩
        · refine hpl (.cell (F 0).1 (F 0).2.1) (List.mem_append_left _ (MemPlace.mem_row.2 ⟨0, by rw [T.six]; omega, ?_⟩))
          rw [ha0]
          rfl
        · obtain ⟨y1, y2, _⟩ := hF j (by omega)
          rw [ha0, add_plain] at y1
          injection y1 with q1 q2
          have ej : trmAt ((List.range len).map fun i => (F i).2.2) j = (F j).2.2 := by simp [trmAt, List.getD, hj]
          rw [ej, q2, q1]
          exact y2
      · obtain ⟨i, hi, rfl⟩ := List.mem_map.1 ht
        exact (hF i (by have := List.mem_range.1 hi; omega)).2.2
end
theorem cond_arg {H : Type} {enc : TypeId × Value → H} {w : World} {held : Bool} {cs : Array Value} {d : DataW H} {ps : List MemPlace} (h : DataW.Trod enc Tryz.prog w 0 (fun _ => true) held 30 (.agg cs) d ps) (hlt : ∀ p ∈ ps, p.block < w.heap.size) :
    ∃ A n c L, cs = #[.slice A n c] ∧ TermsAt w (· < w.heap.size) (.slice A n c) L ∧ n ≤ maxLen ∧ ∀ t ∈ L, TrmWide t :=
  cond_fact ⟨Tryz.underlying72, ⟨rfl, rfl, rfl, rfl, rfl, rfl⟩, ⟨by kernel_rfl, by kernel_rfl, by kernel_rfl, by kernel_rfl, by kernel_rfl, by kernel_rfl⟩, by kernel_rfl, Tryz.underlying3, Tryz.underlying3, Tryz.underlying3, Tryz.underlying9, Tryz.underlying9, Tryz.underlying22, Tryz.underlying3, by kernel_rfl⟩
    Tryz.underlying30 rfl (by kernel_rfl) (by kernel_rfl) Tryz.underlying28 h hlt
end Go.Proofs.YtaljcojkcgjmcaaGreatDoor
namespace Go.Proofs.YtaljcojkcgjmcaaGreatDoor
open Go.RowKit Num

theorem blk_two (w : World) (o1 : Obj) (T : TypeId) (ys : Array Value) : Blk ((w.alloc o1).alloc (.cells ys T)) (w.heap.size + 1) T ys := by
  have := Blk.new (w.alloc o1) T ys
  rwa [World.size_alloc] at this
/-- What the kit's OddCondition gives: a condition in new blocks; of the old ones only the dice were changed. -/
def OddE (w : World) (db N : Nat) (e : Ending) (w' : World) : Prop := ∃ A n c L, e = .returned (.agg #[.slice A n c]) ∧ TermsAt w' (fun b => b ≠ db ∧ b < w'.heap.size) (.slice A n c) L ∧ L.length ≤ N + 1 ∧ (∀ t ∈ L, TrmOk t) ∧ Dc w' db ∧ w.grownBy w' (some db)
theorem odd_end {w W : World} {db rb N : Nat} {A : Option Addr} {n c : Nat} {L' : List Trm} (hT : TermsAt W (fun q => q ≠ db ∧ q ≠ rb ∧ q < W.heap.size) (.slice A n c) L') (hl : L'.length ≤ N + 1) (hok : ∀ t ∈ L', TrmOk t) (hd : Dc W db) (hg : w.grownBy W (some db)) (hrb : w.heap.size ≤ rb) (hdb : db < rb) (v' : Value) :
    OddE w db N (.returned (.agg #[.slice A n c])) (W.setCell ⟨rb, 0, none⟩ v') := by
  have hc : Chg W (W.setCell ⟨rb, 0, none⟩ v') (fun q => q = rb) := Chg.setCell (Chg.refl W (fun q => q = rb)) ⟨rb, 0, none⟩ (fun _ => rfl) v'
  refine ⟨A, n, c, L', rfl, (hT.keep fun q hq => hc.block q hq.2.2 hq.2.1).mono fun q hq => ⟨hq.1, Nat.lt_of_lt_of_le hq.2.2 hc.size⟩, hl, hok, hd.keep fun i hi => hc.block i (by have := hd.lt; omega) (by omega), ?_⟩
  exact ⟨hc.os.trans hg.os, hc.tape.trans hg.tape, hc.output.trans hg.output, Nat.le_trans hg.size hc.size, fun k hk hne => (hc.block k (Nat.lt_of_lt_of_le hk hg.size) (by omega)).trans (hg.block k hk hne)⟩
/-- The terms of a list of one's own lie in its block. -/
theorem OwnTr.termsG {w : World} {B g cap : Nat} {S : Nat → Prop} {L : List Trm} {us : Nat → Value} (h : OwnTr w B S (.slice (some ⟨g, 0, none⟩) L.length cap) L us) : TermsAt w (fun b => S b ∨ b = g) (.slice (some ⟨g, 0, none⟩) L.length cap) L := by
  have hnc : L.length ≤ cap := by
    rcases h.row.2 with ⟨h1, _⟩ | ⟨g', cap', cur, h1, _, _, h2, _⟩
    · cases h1
    · injection h1 with _ _ h1; omega
  refine ⟨some ⟨g, 0, none⟩, L.length, cap, rfl, rfl, hnc, fun _ => ⟨g, 0, rfl, .inr rfl, fun k hk => ?_⟩⟩
  have hc : ∀ i u, i < 6 → (tmCell (trmAt L k) (us k)).getD i undef = u → w.cell? ⟨g, 0 + k * 6 + i, none⟩ = some u := by
    intro i u hi hu
    rw [Nat.zero_add]
    exact own_cell h.row (k * 6 + i) u (by rw [tmsC_at L us k i hk hi, hu])
  exact ⟨hc 0 _ (by decide) rfl, hc 1 _ (by decide) rfl, hc 2 _ (by decide) rfl, hc 3 _ (by decide) rfl, hc 4 _ (by decide) rfl, us k, hc 5 _ (by decide) rfl, (h.args k hk).mono fun b hb => .inl hb⟩
theorem terms_tail {w : World} {S : Nat → Prop} {g n cap : Nat} {L : List Trm} (h : TermsAt w S (.slice (some ⟨g, 0, none⟩) n cap) L) (h1 : 1 ≤ n) : TermsAt w S (.slice (subA (some ⟨g, 0, none⟩) cap 1 6) (n - 1) (cap - 1)) L.tail := by
  obtain ⟨A, n', c', he, hn, hnc, h4⟩ := h
  injection he with e1 e2 e3
  subst e2 e3
  refine ⟨_, n - 1, cap - 1, rfl, by rw [List.length_tail]; omega, by omega, fun hn0 => ?_⟩
  obtain ⟨b, off, hA, hS, hc⟩ := h4 (by omega)
  rw [← e1] at hA
  injection hA with hA; injection hA with a1 a2
  subst a1 a2
  refine ⟨g, 6, ?_, hS, fun k hk => ?_⟩
  · unfold subA
    rw [if_neg (by omega)]
    rfl
  · have := hc (k + 1) (by omega)
    have e : trmAt L.tail k = trmAt L (k + 1) := by unfold trmAt; rw [List.getD_eq_getElem?_getD, List.getD_eq_getElem?_getD, List.getElem?_tail]
    rw [e, show 6 + k * 6 = 0 + (k + 1) * 6 by omega]
    exact this
/-- What is kept while the copy is there and nothing was changed yet. -/
structure OdS (w W : World) (db cb g n cap : Nat) (L : List Trm) (us : Nat → Value) : Prop where
  len : n = L.length
  one : 1 ≤ n
  dc : Dc W db
  own : OwnTr W (w.heap.size + 2) (fun q => q ≠ db ∧ q < w.heap.size) (.slice (some ⟨g, 0, none⟩) L.length cap) L us
  res : Blk W (w.heap.size + 1) 30 #[.slice none 0 0]
  cnd : Blk W cb 30 #[.slice (some ⟨g, 0, none⟩) n cap]
  gw : w.grownBy W (some db)
  dlt : db < w.heap.size
  glt : w.heap.size + 2 ≤ g
  clt : g < cb
section
variable {w W W' : World} {db cb g n cap : Nat} {L : List Trm} {us : Nat → Value} {T : Nat → Prop}
theorem OdS.keep (h : OdS w W db cb g n cap L us) (hd : Dc W' db) (hc : Chg W W' T) (hT : ∀ i, i < W.heap.size → T i → i = db) : OdS w W' db cb g n cap L us := by
  have h1 := h.dlt
  have h2 := h.glt
  have h3 := h.clt
  have hs := h.gw.size
  have kb : ∀ q, q < W.heap.size → q ≠ db → W'.heap[q]? = W.heap[q]? := fun q hq hne => hc.block q hq (fun e => hne (hT q hq e))
  have hl := h.len
  have ho := h.one
  have hgl : g < W.heap.size := Nat.lt_trans h3 h.cnd.lt
  exact ⟨hl, ho, hd, ⟨hc.own h.own.row (fun q hq e => by have hq' : g = q := Option.some.inj hq; have := hT q (by omega) e; omega), fun k hk => (h.own.args k hk).keep fun q hq => kb q (by have := hq.2; omega) hq.1⟩, (kb _ h.res.lt (by omega)).trans h.res, (kb _ h.cnd.lt (by omega)).trans h.cnd,
    ⟨hc.os.trans h.gw.os, hc.tape.trans h.gw.tape, hc.output.trans h.gw.output, Nat.le_trans hs hc.size, fun q hq hne => (kb q (by omega) (fun e => hne (by rw [e]))).trans (h.gw.block q hq hne)⟩, h1, h2, h3⟩
theorem OdS.dice (h : OdS w W db cb g n cap L us) (hd : Dc W' db) (hg : W.grownBy W' (some db)) : OdS w W' db cb g n cap L us :=
  h.keep (T := fun i => i = db) hd (Chg.of_grown hg (fun g hg _ => by cases hg; rfl)) (fun _ _ e => e)
theorem OdS.alloc (h : OdS w W db cb g n cap L us) (o : Obj) : OdS w (W.alloc o) db cb g n cap L us := h.keep (T := fun _ => False) (h.dc.alloc o) ((Chg.refl W _).alloc o) (fun _ _ e => e.elim)
/-- A row that was made behind it grows. -/
theorem OdS.grown (h : OdS w W db cb g n cap L us) {row : Option Nat} (hg : W.grownBy W' row) (hr : ∀ q, row = some q → cb < q) : OdS w W' db cb g n cap L us := by
  have hs := h.gw.size
  have h1 := h.dlt
  have h2 := h.glt
  have h3 := h.clt
  have kb : ∀ q, q < W.heap.size → q ≤ cb → W'.heap[q]? = W.heap[q]? := fun q hq hne => hg.block q hq (fun e => by have := hr q e.symm; omega)
  have hgl : g < W.heap.size := Nat.lt_trans h3 h.cnd.lt
  refine ⟨h.len, h.one, h.dc.keep fun q hq => kb q (by have := h.dc.lt; omega) (by omega), ⟨h.own.row.kept hg ?_, fun k hk => (h.own.args k hk).keep fun q hq => kb q (by have := hq.2; omega) (by have := hq.2; omega)⟩, (kb _ h.res.lt (by omega)).trans h.res, (kb _ h.cnd.lt (by omega)).trans h.cnd, ⟨hg.os.trans h.gw.os, hg.tape.trans h.gw.tape, hg.output.trans h.gw.output, Nat.le_trans hs hg.size, fun q hq hne => (kb q (by omega) (by omega)).trans (h.gw.block q hq hne)⟩, h1, h2, h3⟩
  rcases row with _ | q
  · exact .inr (by intro e; cases e)
  · have := hr q rfl
    exact .inr (by intro e; have e' : some g = some q := e; injection e' with e'; omega)
theorem OdS.cc (h : OdS w W db cb g n cap L us) : W.cell? ⟨cb, 0, none⟩ = some (.slice (some ⟨g, 0, none⟩) n cap) := h.cnd.cell 0
theorem OdS.cr (h : OdS w W db cb g n cap L us) : W.cell? ⟨w.heap.size + 1, 0, none⟩ = some (.slice none 0 0) := h.res.cell 0
theorem OdS.fc (h : OdS w W db cb g n cap L us) : W.frozen? ⟨cb, 0, none⟩ = false := h.cnd.frozen 0
theorem OdS.fr (h : OdS w W db cb g n cap L us) : W.frozen? ⟨w.heap.size + 1, 0, none⟩ = false := h.res.frozen 0
theorem OdS.ct (h : OdS w W db cb g n cap L us) (k i : Nat) (hk : k < n) (hi : i < 6) : W.cell? ⟨g, k * 6 + i, none⟩ = some ((tmCell (trmAt L k) (us k)).getD i undef) :=
  own_cell h.own.row (k * 6 + i) _ (tmsC_at L us k i (by have := h.len; omega) hi)
theorem OdS.ft (h : OdS w W db cb g n cap L us) (k : Nat) : W.frozen? ⟨g, k, none⟩ = false := own_frozen h.own.row k
theorem OdS.glw (h : OdS w W db cb g n cap L us) : g < W.heap.size := Nat.lt_trans h.clt h.cnd.lt
theorem OdS.resAfter (h : OdS w W db cb g n cap L us) (b i : Nat) (v x : Value) (hb : b ≠ w.heap.size + 1) : ((W.setCell ⟨b, i, none⟩ v).setCell ⟨w.heap.size + 1, 0, none⟩ x).cell? ⟨w.heap.size + 1, 0, none⟩ = some x := by
  have h1 : Blk (W.setCell ⟨b, i, none⟩ v) (w.heap.size + 1) 30 #[.slice none 0 0] := (Below.heap_setCell _ _ _ _ (by show w.heap.size + 1 ≠ b; omega)).trans h.res
  exact World.cell?_setCell_same _ _ _ (h1.cell 0)
theorem OdS.resNow (h : OdS w W db cb g n cap L us) (x : Value) : (W.setCell ⟨w.heap.size + 1, 0, none⟩ x).cell? ⟨w.heap.size + 1, 0, none⟩ = some x := World.cell?_setCell_same _ _ _ h.cr
theorem ok_set {L : List Trm} {k : Nat} {t' : Trm} (hok : ∀ t ∈ L, TrmOk t) (ht : TrmOk t') : ∀ t ∈ L.set k t', TrmOk t := fun t hm => by
  rcases List.mem_or_eq_of_mem_set hm with e | e
  · exact hok t e
  · rw [e]; exact ht
/-- One cell of one term is written, and the result's. -/
theorem OdS.stored (h : OdS w W db cb g n cap L us) {k i : Nat} (hk : k < n) (hi : i < 6) (t' : Trm) (u' v : Value) (e : (tmCell (trmAt L k) (us k)).set i v = tmCell t' u')
    (hu : IntsAt W (fun q => q ≠ db ∧ q ≠ w.heap.size + 1 ∧ q ≠ g ∧ q < W.heap.size) u' t'.args) (ok : TrmOk t') (hok : ∀ t ∈ L, TrmOk t) (v' : Value) :
    OddE w db n (.returned (.agg #[.slice (some ⟨g, 0, none⟩) n cap])) ((W.setCell ⟨g, k * 6 + i, none⟩ v).setCell ⟨w.heap.size + 1, 0, none⟩ v') := by
  have h1 := h.dlt
  have h2 := h.glt
  have h3 := h.clt
  have hs := h.gw.size
  have hl := h.len
  have hgw := h.glw
  have hgr : w.heap.size + 1 < W.heap.size := h.res.lt
  obtain ⟨o1, o2⟩ := (h.own.mono (T := fun q => q ≠ db ∧ q ≠ w.heap.size + 1 ∧ q ≠ g ∧ q < W.heap.size) (fun q hq => ⟨hq.1, by omega, by omega, by omega⟩)).store (by omega) hi t' u' v e hu (fun q hq => ⟨hq.2.2.2, hq.2.2.1⟩)
  rw [show L.length = (L.set k t').length by rw [List.length_set]] at o1
  have hT := o1.termsG
  rw [List.length_set, ← hl] at hT
  have hsz := o2.size
  refine odd_end (hT.mono fun q hq => ?_) (by rw [List.length_set]; omega) (ok_set hok ok) (h.dc.keep fun q hq => o2.block q (by have := h.dc.lt; omega) (fun e => by injection e; omega)) ?_ (by omega) (by omega) v'
  · rcases hq with ⟨a, b, c, d⟩ | a
    · exact ⟨a, b, by omega⟩
    · exact ⟨by omega, by omega, by omega⟩
  · exact ⟨o2.os.trans h.gw.os, o2.tape.trans h.gw.tape, o2.output.trans h.gw.output, by omega, fun q hq hne => (o2.block q (by omega) (fun e => by injection e; omega)).trans (h.gw.block q hq hne)⟩
/-- The arguments of a term are kept where they were. -/
theorem OdS.arg (h : OdS w W db cb g n cap L us) {k : Nat} (hk : k < n) : IntsAt W (fun q => q ≠ db ∧ q ≠ w.heap.size + 1 ∧ q ≠ g ∧ q < W.heap.size) (us k) (trmAt L k).args :=
  (h.own.args k (by have := h.len; omega)).mono fun q hq => ⟨hq.1, by omega, by have := h.glt; omega, by have := h.gw.size; omega⟩
/-- Nothing was changed. -/
theorem OdS.plain (h : OdS w W db cb g n cap L us) (hok : ∀ t ∈ L, TrmOk t) (v' : Value) : OddE w db n (.returned (.agg #[.slice (some ⟨g, 0, none⟩) n cap])) (W.setCell ⟨w.heap.size + 1, 0, none⟩ v') := by
  have h1 := h.dlt
  have h2 := h.glt
  have h3 := h.clt
  have hs := h.gw.size
  have hl := h.len
  have hgw := h.glw
  have hT := h.own.termsG
  rw [← hl] at hT
  refine odd_end (hT.mono fun q hq => ?_) (by omega) hok h.dc h.gw (by omega) (by omega) v'
  rcases hq with ⟨a, b⟩ | a
  · exact ⟨a, by omega, by omega⟩
  · exact ⟨by omega, by omega, by omega⟩
/-- The first term is cut off. -/
theorem OdS.cut (h : OdS w W db cb g n cap L us) (hok : ∀ t ∈ L, TrmOk t) (x v' : Value) :
    OddE w db n (.returned (.agg #[.slice (subA (some ⟨g, 0, none⟩) cap 1 6) (n - 1) (cap - 1)])) ((W.setCell ⟨cb, 0, none⟩ x).setCell ⟨w.heap.size + 1, 0, none⟩ v') := by
  have h1 := h.dlt
  have h2 := h.glt
  have h3 := h.clt
  have hs := h.gw.size
  have hl := h.len
  have ho := h.one
  have hgw := h.glw
  have hT := h.own.termsG
  rw [← hl] at hT
  have hc : Chg W (W.setCell ⟨cb, 0, none⟩ x) (fun q => q = cb) := chg_set W cb 0 x
  have hsz := hc.size
  have hT2 := terms_tail hT ho
  have hT3 : TermsAt (W.setCell ⟨cb, 0, none⟩ x) (fun b => (b ≠ db ∧ b < w.heap.size) ∨ b = g) (.slice (subA (some ⟨g, 0, none⟩) cap 1 6) (n - 1) (cap - 1)) L.tail := hT2.keep fun q hq => hc.block q (by omega) (by omega)
  refine odd_end (hT3.mono fun q hq => ?_) (by rw [List.length_tail]; omega) (fun t ht => hok t (List.mem_of_mem_tail ht)) (h.dc.keep fun q hq => hc.block q (by have := h.dc.lt; omega) (by omega)) ?_ (by omega) (by omega) v'
  · rcases hq with ⟨a, b⟩ | a
    · exact ⟨a, by omega, by omega⟩
    · exact ⟨by omega, by omega, by omega⟩
  · exact ⟨hc.os.trans h.gw.os, hc.tape.trans h.gw.tape, hc.output.trans h.gw.output, by omega, fun q hq hne => (hc.block q (by omega) (by omega)).trans (h.gw.block q hq hne)⟩
/-- A term is put behind the others. -/
theorem OdS.pushed (h : OdS w W db cb g n cap L us) (hok : ∀ t ∈ L, TrmOk t) {t : Trm} (ht : t.args = []) (htk : TrmOk t) {o : Obj} {v2 : Value} (hown : W'.ownsRow (w.heap.size + 2) 72 6 v2 (n + 1) (tmsC L us ++ tmCell t (.slice none 0 0))) (hg : (W.alloc o).grownBy W' (some g))
    (hwh : v2.ownBlock = some g ∨ v2.ownBlock = some (W.heap.size + 1)) :
    ∃ A2 c2, v2 = .slice A2 (n + 1) c2 ∧ W'.cell? ⟨cb, 0, none⟩ = some (.slice (some ⟨g, 0, none⟩) n cap) ∧ W'.frozen? ⟨cb, 0, none⟩ = false ∧ W'.cell? ⟨w.heap.size + 1, 0, none⟩ = some (.slice none 0 0) ∧ W'.frozen? ⟨w.heap.size + 1, 0, none⟩ = false ∧ (∀ x y, ((W'.setCell ⟨cb, 0, none⟩ x).setCell ⟨w.heap.size + 1, 0, none⟩ y).cell? ⟨w.heap.size + 1, 0, none⟩ = some y) ∧
      ∀ x v', OddE w db n (.returned (.agg #[.slice A2 (n + 1) c2])) ((W'.setCell ⟨cb, 0, none⟩ x).setCell ⟨w.heap.size + 1, 0, none⟩ v') := by
  have h1 := h.dlt
  have h2 := h.glt
  have h3 := h.clt
  have hs := h.gw.size
  have hl := h.len
  have ho := h.one
  have hgw := h.glw
  have hgs := hg.size
  simp only [World.size_alloc] at hgs
  have hch : Chg W W' (fun i => i = g) := ((Chg.refl W (fun i => i = g)).alloc o).trans (Chg.of_grown hg (fun q hq _ => by cases hq; rfl)) (fun _ _ e => e)
  obtain ⟨g2, c2, rfl, hg2, hgl2⟩ := hown.form (by omega)
  have hg2' : g2 = g ∨ g2 = W.heap.size + 1 := by
    rcases hwh with e | e
    · exact .inl (Option.some.inj e)
    · exact .inr (Option.some.inj e)
  have hcl := h.cnd.lt
  have hrl := h.res.lt
  have hOT : OwnTr W' (w.heap.size + 2) (fun q => q ≠ db ∧ q < w.heap.size) (.slice (some ⟨g2, 0, none⟩) (L ++ [t]).length c2) (L ++ [t]) (fun k => if k = L.length then .slice none 0 0 else us k) := by
    refine ⟨?_, fun k hk => ?_⟩
    · rw [tmsC_snoc, List.length_append]
      have e : tmsC L (fun k => if k = L.length then .slice none 0 0 else us k) = tmsC L us := tmsC_congr L fun k hk => if_neg (by omega)
      rw [e, ← hl]; simpa using hown
    · rw [List.length_append] at hk
      by_cases e : k = L.length
      · subst e; rw [if_pos rfl, trmAt_new, ht]; exact ⟨none, 0, 0, rfl, rfl, Nat.le_refl _, fun h => absurd h (by omega)⟩
      · rw [if_neg e, trmAt_old L t k (by simp at hk; omega)]
        exact (h.own.args k (by simp at hk; omega)).keep fun q hq => hch.block q (by omega) (by omega)
  have hT := hOT.termsG
  rw [List.length_append, ← hl] at hT
  have hcnd : Blk W' cb 30 #[.slice (some ⟨g, 0, none⟩) n cap] := hch.blk h.cnd (by omega)
  have hres : Blk W' (w.heap.size + 1) 30 #[.slice none 0 0] := hch.blk h.res (by omega)
  refine ⟨_, c2, rfl, hcnd.cell 0, hcnd.frozen 0, hres.cell 0, hres.frozen 0, fun x y => ?_, fun x v' => ?_⟩
  · have h1 : Blk (W'.setCell ⟨cb, 0, none⟩ x) (w.heap.size + 1) 30 #[.slice none 0 0] := (Below.heap_setCell _ _ _ _ (by show w.heap.size + 1 ≠ cb; omega)).trans hres
    exact World.cell?_setCell_same _ _ _ (h1.cell 0)
  · have hc : Chg W' (W'.setCell ⟨cb, 0, none⟩ x) (fun q => q = cb) := chg_set W' cb 0 x
    have hsz := hc.size
    have hT3 : TermsAt (W'.setCell ⟨cb, 0, none⟩ x) (fun b => (b ≠ db ∧ b < w.heap.size) ∨ b = g2) (.slice (some ⟨g2, 0, none⟩) (n + 1) c2) (L ++ [t]) := hT.keep fun q hq => hc.block q (by omega) (by omega)
    refine odd_end (hT3.mono fun q hq => ?_) (by rw [List.length_append]; simp; omega) (fun t' ht' => ?_) (h.dc.keep fun q hq => (hc.block q (by have := h.dc.lt; omega) (by omega)).trans (hch.block q (by have := h.dc.lt; omega) (by omega))) ?_ (by omega) (by omega) v'
    · rcases hq with ⟨a, b⟩ | a
      · exact ⟨a, by omega, by omega⟩
      · exact ⟨by omega, by omega, by omega⟩
    · rcases List.mem_append.1 ht' with e | e
      · exact hok t' e
      · rw [List.mem_singleton.1 e]; exact htk
    · exact ⟨hc.os.trans (hch.os.trans h.gw.os), hc.tape.trans (hch.tape.trans h.gw.tape), hc.output.trans (hch.output.trans h.gw.output), by omega, fun q hq hne => (hc.block q (by omega) (by omega)).trans ((hch.block q (by omega) (by omega)).trans (h.gw.block q hq hne))⟩
end
end Go.Proofs.YtaljcojkcgjmcaaGreatDoor
