/- Words for memory: a statement while the kit (or the plays) makes it. -/
import Derived.Test.YtgeahbmaeaoeeaaGreatDoorQ20
import Derived.Test.YtgeahbmaeaoeeaaGreatDoorQ22
set_option linter.unusedVariables false
set_option linter.unusedSimpArgs false
namespace Go.Proofs.YtgeahbmaeaoeeaaGreatDoor
open Go.RowKit Num

def ansC (L : List Ans) : List Value := L.flatMap fun a => [.string a.field, .string a.text, .int .i64 a.num]
def shwC (L : List Shw) : List Value := L.flatMap fun a => [.string a.field, .string a.role]
theorem ansC_len (L : List Ans) : (ansC L).length = L.length * 3 := by
  induction L with
  | nil => rfl
  | cons a r ih => show (_ :: _ :: _ :: ansC r).length = _; simp only [List.length_cons]; omega
theorem shwC_len (L : List Shw) : (shwC L).length = L.length * 2 := by
  induction L with
  | nil => rfl
  | cons a r ih => show (_ :: _ :: shwC r).length = _; simp only [List.length_cons]; omega
theorem ansC_snoc (L : List Ans) (a : Ans) : ansC (L ++ [a]) = ansC L ++ [.string a.field, .string a.text, .int .i64 a.num] := by simp [ansC]
theorem shwC_snoc (L : List Shw) (a : Shw) : shwC (L ++ [a]) = shwC L ++ [.string a.field, .string a.role] := by simp [shwC]
theorem ansC_at : ∀ (L : List Ans) (k : Nat), k < L.length → (ansC L)[k * 3]? = some (.string (ansAt L k).field) ∧ (ansC L)[k * 3 + 1]? = some (.string (ansAt L k).text) ∧ (ansC L)[k * 3 + 2]? = some (.int .i64 (ansAt L k).num)
  | [], k, h => absurd h (Nat.not_lt_zero _)
  | a :: r, 0, _ => ⟨rfl, rfl, rfl⟩
  | a :: r, k + 1, h => by
    have := ansC_at r k (by simpa using h)
    have e : ∀ j, (ansC (a :: r))[(k + 1) * 3 + j]? = (ansC r)[k * 3 + j]? := fun j => by
      show (Value.string a.field :: Value.string a.text :: Value.int .i64 a.num :: ansC r)[(k + 1) * 3 + j]? = _
      rw [show (k + 1) * 3 + j = (k * 3 + j) + 1 + 1 + 1 by omega]
      rfl
    exact ⟨(e 0).trans this.1, (e 1).trans this.2.1, (e 2).trans this.2.2⟩
theorem shwC_at : ∀ (L : List Shw) (k : Nat), k < L.length → (shwC L)[k * 2]? = some (.string (shwAt L k).field) ∧ (shwC L)[k * 2 + 1]? = some (.string (shwAt L k).role)
  | [], k, h => absurd h (Nat.not_lt_zero _)
  | a :: r, 0, _ => ⟨rfl, rfl⟩
  | a :: r, k + 1, h => by
    have := shwC_at r k (by simpa using h)
    have e : ∀ j, (shwC (a :: r))[(k + 1) * 2 + j]? = (shwC r)[k * 2 + j]? := fun j => by
      show (Value.string a.field :: Value.string a.role :: shwC r)[(k + 1) * 2 + j]? = _
      rw [show (k + 1) * 2 + j = (k * 2 + j) + 1 + 1 by omega]
      rfl
    exact ⟨(e 0).trans this.1, (e 1).trans this.2⟩
theorem AnssAt.of_own {w : World} {B n : Nat} {v : Value} {L : List Ans} (h : w.ownsRow B 106 3 v n (ansC L)) : AnssAt w (fun b => B ≤ b ∧ b < w.heap.size) v L := by
  have hl : n = L.length := by have := h.1; rw [ansC_len] at this; omega
  rcases id h.2 with ⟨rfl, rfl⟩ | ⟨g, cap, cur, rfl, hB, hh, hnc, _⟩
  · exact ⟨none, 0, 0, rfl, hl, Nat.le_refl _, fun hn => absurd hn (Nat.lt_irrefl 0)⟩
  · refine ⟨_, n, cap, rfl, hl, hnc, fun hn => ⟨g, 0, rfl, ⟨hB, (Array.getElem?_eq_some_iff.1 hh).1⟩, fun k hk => ?_⟩⟩
    obtain ⟨a, b, c⟩ := ansC_at L k (by omega)
    rw [Nat.zero_add]
    exact ⟨own_cell h _ _ a, own_cell h _ _ b, own_cell h _ _ c⟩
theorem ShwsAt.of_own {w : World} {B n : Nat} {v : Value} {L : List Shw} (h : w.ownsRow B 109 2 v n (shwC L)) : ShwsAt w (fun b => B ≤ b ∧ b < w.heap.size) v L := by
  have hl : n = L.length := by have := h.1; rw [shwC_len] at this; omega
  rcases id h.2 with ⟨rfl, rfl⟩ | ⟨g, cap, cur, rfl, hB, hh, hnc, _⟩
  · exact ⟨none, 0, 0, rfl, hl, Nat.le_refl _, fun hn => absurd hn (Nat.lt_irrefl 0)⟩
  · refine ⟨_, n, cap, rfl, hl, hnc, fun hn => ⟨g, 0, rfl, ⟨hB, (Array.getElem?_eq_some_iff.1 hh).1⟩, fun k hk => ?_⟩⟩
    obtain ⟨a, b⟩ := shwC_at L k (by omega)
    rw [Nat.zero_add]
    exact ⟨own_cell h _ _ a, own_cell h _ _ b⟩
/-- A role of the kit or of the plays: a short one, and nobody is none. -/
abbrev RoleP (r : ByteArray) : Prop := r.size ≤ 1000 ∧ r.data.toList ≠ [110, 111, 98, 111, 100, 121]
/-- A statement of the kit or of the plays: short texts, small numbers. -/
structure StmSm (s : Stm) : Prop where
  resp : s.resp.size ≤ 1000
  dep : -1000000000 ≤ s.dep ∧ s.dep ≤ 1000000000
  day : -1000000000 ≤ s.day ∧ s.day ≤ 1000000000
  an : s.ans.length ≤ 100
  ans : ∀ a ∈ s.ans, a.field.size ≤ 1000 ∧ a.text.size ≤ 1000 ∧ -1000000000 ≤ a.num ∧ a.num ≤ 1000000000
  sn : s.shw.length ≤ 100
  shw : ∀ a ∈ s.shw, a.field.size ≤ 1000 ∧ RoleP a.role
  cn : s.cond.length ≤ 1000
  cond : ∀ t ∈ s.cond, KitT t
theorem ansAt_mem {L : List Ans} {k : Nat} (hk : k < L.length) : ansAt L k ∈ L := by
  unfold ansAt
  rw [List.getD_eq_getElem?_getD, List.getElem?_eq_getElem hk]
  exact List.getElem_mem hk
theorem shwAt_mem {L : List Shw} {k : Nat} (hk : k < L.length) : shwAt L k ∈ L := by
  unfold shwAt
  rw [List.getD_eq_getElem?_getD, List.getElem?_eq_getElem hk]
  exact List.getElem_mem hk
theorem StmSm.ok {s : Stm} (h : StmSm s) : StmOk s := by
  refine ⟨by have := h.resp; omega, ⟨by have := h.dep; omega, by have := h.dep; omega⟩, ⟨by have := h.day; omega, by have := h.day; omega⟩, by have := h.an; omega, fun k hk => ?_, by have := h.sn; omega, fun k hk => ?_, by have := h.cn; omega, fun t ht => ?_⟩
  · obtain ⟨a, b, c, d⟩ := h.ans _ (ansAt_mem hk)
    exact ⟨by omega, by omega, by omega, by omega⟩
  · obtain ⟨a, b, -⟩ := h.shw _ (shwAt_mem hk)
    exact ⟨by omega, by omega⟩
  · obtain ⟨a, b, _, _, c⟩ := h.cond t ht
    exact ⟨by omega, by omega, by omega⟩
/-- What makes a statement gives this: its lists lie in new blocks; of the old ones only the dice were changed. -/
def StmE (w : World) (db : Nat) (e : Ending) (w' : World) : Prop := ∃ s Aa na ca Ac nc cc As ns cs, e = .returned (.agg #[.string s.resp, .int .i64 s.dep, .int .i64 s.day, .slice Aa na ca, .slice Ac nc cc, .slice As ns cs]) ∧ StmAt w' (fun b => w.heap.size ≤ b ∧ b < w'.heap.size) (.slice Aa na ca) (.slice Ac nc cc) (.slice As ns cs) s ∧ StmSm s ∧ Dc w' db ∧ w.grownBy w' (some db)
def stmZ : Array Value := #[.string ⟨#[]⟩, .int .i64 0, .int .i64 0, .slice none 0 0, .slice none 0 0, .slice none 0 0]
/-- While it is made: tb: its block; the rows of its answers and shows are made behind it, its condition ahead of it; the result's block is the call's first. -/
structure GSt (w W : World) (db tb : Nat) (s : Stm) (va vc vs : Value) : Prop where
  dc : Dc W db
  blk : Blk W tb 61 #[.string s.resp, .int .i64 s.dep, .int .i64 s.day, va, vc, vs]
  oa : W.ownsRow tb 106 3 va s.ans.length (ansC s.ans)
  os : W.ownsRow tb 109 2 vs s.shw.length (shwC s.shw)
  cc : TermsAt W (fun b => w.heap.size < b ∧ b < tb) vc s.cond
  res : Blk W w.heap.size 61 stmZ
  gw : w.grownBy W (some db)
  sm : StmSm s
  dlt : db < w.heap.size
  tlt : w.heap.size < tb
section
variable {w W W' : World} {db tb : Nat} {s : Stm} {va vc vs : Value}
theorem GSt.keep (h : GSt w W db tb s va vc vs) (hd : Dc W' db) {row : Option Nat} (hg : W.grownBy W' row) (hr : ∀ q, row = some q → q = db) : GSt w W' db tb s va vc vs := by
  have h1 := h.dlt
  have h2 := h.tlt
  have l1 := h.blk.lt
  have l2 := h.res.lt
  have kb : ∀ q, q < W.heap.size → q ≠ db → W'.heap[q]? = W.heap[q]? := fun q hq hne => hg.block q hq (fun e => hne (hr q e.symm))
  have kr : ∀ v : Value, (∀ g, v.ownBlock = some g → tb ≤ g) → v.ownBlock = none ∨ v.ownBlock ≠ row := fun v hv => by
    rcases hb : v.ownBlock with _ | q
    · exact .inl rfl
    · refine .inr fun e => ?_
      have e2 := hr q e.symm
      have := hv q hb
      omega
  exact ⟨hd, (kb tb l1 (by omega)).trans h.blk, h.oa.kept hg (kr va fun g hg => (h.oa.lt g hg).1), h.os.kept hg (kr vs fun g hg => (h.os.lt g hg).1), h.cc.keep fun b hb => kb b (by omega) (by omega), (kb _ l2 (by omega)).trans h.res,
    ⟨hg.os.trans h.gw.os, hg.tape.trans h.gw.tape, hg.output.trans h.gw.output, Nat.le_trans h.gw.size hg.size, fun q hq hne => (kb q (by have := h.gw.size; omega) (fun e => hne (by rw [e]))).trans (h.gw.block q hq hne)⟩, h.sm, h1, h2⟩
theorem GSt.dice (h : GSt w W db tb s va vc vs) (hd : Dc W' db) (hg : W.grownBy W' (some db)) : GSt w W' db tb s va vc vs := h.keep hd hg (fun q hq => (Option.some.inj hq).symm)
theorem GSt.alloc (h : GSt w W db tb s va vc vs) (o : Obj) : GSt w (W.alloc o) db tb s va vc vs := h.keep (h.dc.alloc o) (World.grownBy_alloc W o none) (fun q hq => by cases hq)
theorem GSt.drew (h : GSt w W db tb s va vc vs) : GSt w W.drew db tb s va vc vs := h.keep h.dc.drew (row := none) (only_drewN (World.grownBy.refl W _) 1) (fun q hq => by cases hq)
theorem GSt.c3 (h : GSt w W db tb s va vc vs) : W.cell? ⟨tb, 3, none⟩ = some va := (h.blk.cell 3).trans rfl
theorem GSt.c5 (h : GSt w W db tb s va vc vs) : W.cell? ⟨tb, 5, none⟩ = some vs := (h.blk.cell 5).trans rfl
theorem GSt.fz (h : GSt w W db tb s va vc vs) (i : Nat) : W.frozen? ⟨tb, i, none⟩ = false := h.blk.frozen i
/-- What an append to one of the two rows leaves. -/
theorem GSt.row (h : GSt w W db tb s va vc vs) {o : Obj} {v : Value} (hv : ∀ g, v.ownBlock = some g → tb < g) (hg : (W.alloc o).grownBy W' v.ownBlock) : (∀ q, q < W.heap.size → v.ownBlock ≠ some q → W'.heap[q]? = W.heap[q]?) ∧ Dc W' db ∧ Blk W' tb 61 #[.string s.resp, .int .i64 s.dep, .int .i64 s.day, va, vc, vs] ∧ TermsAt W' (fun b => w.heap.size < b ∧ b < tb) vc s.cond ∧ Blk W' w.heap.size 61 stmZ ∧ w.grownBy W' (some db) := by
  have h1 := h.dlt
  have h2 := h.tlt
  have l1 := h.blk.lt
  have l2 := h.res.lt
  have kb : ∀ q, q < W.heap.size → v.ownBlock ≠ some q → W'.heap[q]? = W.heap[q]? := fun q hq hne => (hg.block q (by simp; omega) (fun e => hne e.symm)).trans (Below.heap_alloc W o q hq)
  have kl : ∀ q, q ≤ tb → W'.heap[q]? = W.heap[q]? := fun q hq => kb q (by omega) (fun e => by have := hv q e; omega)
  have hsz := hg.size
  simp only [World.size_alloc] at hsz
  refine ⟨kb, h.dc.keep fun q hq => kl q (by have := h.dc.lt; omega), (kl tb (Nat.le_refl _)).trans h.blk, h.cc.keep fun b hb => kl b (by omega), (kl _ (by omega)).trans h.res, ⟨hg.os.trans h.gw.os, hg.tape.trans h.gw.tape, hg.output.trans h.gw.output, by have := h.gw.size; omega, fun q hq hne => (kl q (by omega)).trans (h.gw.block q hq hne)⟩⟩
theorem own_above {B : Nat} {e : TypeId} {z n : Nat} {v : Value} {xs : List Value} (h : W.ownsRow B e z v n xs) {cs : Array Value} {t : TypeId} (hb : Blk W B t cs) (hne : t ≠ e) : ∀ g, v.ownBlock = some g → B < g := fun g hg => by
  have := (h.lt g hg).1
  have := own_not h hb hne g hg
  omega
/-- An answer is put behind the others. -/
theorem GSt.pushA (h : GSt w W db tb s va vc vs) {o : Obj} {v' : Value} {a : Ans} (hown : W'.ownsRow tb 106 3 v' (s.ans.length + 1) (ansC s.ans ++ [.string a.field, .string a.text, .int .i64 a.num])) (hg : (W.alloc o).grownBy W' va.ownBlock)
    (hl : s.ans.length + 1 ≤ 100) (ha : a.field.size ≤ 1000 ∧ a.text.size ≤ 1000 ∧ -1000000000 ≤ a.num ∧ a.num ≤ 1000000000) :
    GSt w (W'.setCell ⟨tb, 3, none⟩ v') db tb { s with ans := s.ans ++ [a] } v' vc vs ∧ W'.cell? ⟨tb, 3, none⟩ = some va ∧ W'.frozen? ⟨tb, 3, none⟩ = false := by
  obtain ⟨kb, hd, hb, hc, hr, hgw⟩ := h.row (own_above h.oa h.blk (by decide)) hg
  have hs := hg.size
  simp only [World.size_alloc] at hs
  have hos : W'.ownsRow tb 109 2 vs s.shw.length (shwC s.shw) := (h.os.alloc o).kept hg (own_ne h.os h.oa (by decide))
  have hset : W'.grownBy (W'.setCell ⟨tb, 3, none⟩ v') (some tb) := grown_setCell W' ⟨tb, 3, none⟩ v'
  have hav : ∀ g, v'.ownBlock = some g → tb < g := own_above hown hb (by decide)
  have h2 := h.tlt
  refine ⟨⟨hd.keep fun q hq => hset.block q (by have := hd.lt; omega) (fun e => by injection e; have := h.dlt; omega), hb.set_ 3 v', ?_, ?_, hc.keep fun b hb' => hset.block b (by have := hb.lt; omega) (fun e => by injection e; omega), (hset.block _ hr.lt (fun e => by injection e; omega)).trans hr, ?_, ?_, h.dlt, h.tlt⟩, (hb.cell 3).trans rfl, hb.frozen 3⟩
  · show (W'.setCell _ _).ownsRow tb _ 3 v' (s.ans ++ [a]).length (ansC (s.ans ++ [a]))
    rw [List.length_append, ansC_snoc]
    exact hown.kept hset (.inr fun e => by have := hav tb e; omega)
  · exact hos.kept hset (.inr fun e => by have := own_above hos hb (by decide) tb e; omega)
  · exact ⟨hset.os.trans hgw.os, hset.tape.trans hgw.tape, hset.output.trans hgw.output, Nat.le_trans hgw.size hset.size, fun q hq hne => (hset.block q (Nat.lt_of_lt_of_le hq hgw.size) (fun e => by injection e; omega)).trans (hgw.block q hq hne)⟩
  · refine ⟨h.sm.resp, h.sm.dep, h.sm.day, by show (s.ans ++ [a]).length ≤ 100; rw [List.length_append]; exact hl, fun x hx => ?_, h.sm.sn, h.sm.shw, h.sm.cn, h.sm.cond⟩
    rcases List.mem_append.1 hx with e | e
    · exact h.sm.ans x e
    · rw [List.mem_singleton.1 e]; exact ha
/-- A show is put behind the others. -/
theorem GSt.pushS (h : GSt w W db tb s va vc vs) {o : Obj} {v' : Value} {a : Shw} (hown : W'.ownsRow tb 109 2 v' (s.shw.length + 1) (shwC s.shw ++ [.string a.field, .string a.role])) (hg : (W.alloc o).grownBy W' vs.ownBlock)
    (hl : s.shw.length + 1 ≤ 100) (ha : a.field.size ≤ 1000 ∧ RoleP a.role) :
    GSt w (W'.setCell ⟨tb, 5, none⟩ v') db tb { s with shw := s.shw ++ [a] } va vc v' ∧ W'.cell? ⟨tb, 5, none⟩ = some vs ∧ W'.frozen? ⟨tb, 5, none⟩ = false := by
  obtain ⟨kb, hd, hb, hc, hr, hgw⟩ := h.row (own_above h.os h.blk (by decide)) hg
  have hs := hg.size
  simp only [World.size_alloc] at hs
  have hoa : W'.ownsRow tb 106 3 va s.ans.length (ansC s.ans) := (h.oa.alloc o).kept hg (own_ne h.oa h.os (by decide))
  have hset : W'.grownBy (W'.setCell ⟨tb, 5, none⟩ v') (some tb) := grown_setCell W' ⟨tb, 5, none⟩ v'
  have hav : ∀ g, v'.ownBlock = some g → tb < g := own_above hown hb (by decide)
  have h2 := h.tlt
  refine ⟨⟨hd.keep fun q hq => hset.block q (by have := hd.lt; omega) (fun e => by injection e; have := h.dlt; omega), hb.set_ 5 v', ?_, ?_, hc.keep fun b hb' => hset.block b (by have := hb.lt; omega) (fun e => by injection e; omega), (hset.block _ hr.lt (fun e => by injection e; omega)).trans hr, ?_, ?_, h.dlt, h.tlt⟩, (hb.cell 5).trans rfl, hb.frozen 5⟩
  · exact hoa.kept hset (.inr fun e => by have := own_above hoa hb (by decide) tb e; omega)
  · show (W'.setCell _ _).ownsRow tb _ 2 v' (s.shw ++ [a]).length (shwC (s.shw ++ [a]))
    rw [List.length_append, shwC_snoc]
    exact hown.kept hset (.inr fun e => by have := hav tb e; omega)
  · exact ⟨hset.os.trans hgw.os, hset.tape.trans hgw.tape, hset.output.trans hgw.output, Nat.le_trans hgw.size hset.size, fun q hq hne => (hset.block q (Nat.lt_of_lt_of_le hq hgw.size) (fun e => by injection e; omega)).trans (hgw.block q hq hne)⟩
  · refine ⟨h.sm.resp, h.sm.dep, h.sm.day, h.sm.an, h.sm.ans, by show (s.shw ++ [a]).length ≤ 100; rw [List.length_append]; exact hl, fun x hx => ?_, h.sm.cn, h.sm.cond⟩
    rcases List.mem_append.1 hx with e | e
    · exact h.sm.shw x e
    · rw [List.mem_singleton.1 e]; exact ha
/-- The respondent is written. -/
theorem GSt.setR (h : GSt w W db tb s va vc vs) (x : ByteArray) (hx : x.size ≤ 1000) : GSt w (W.setCell ⟨tb, 0, none⟩ (.string x)) db tb { s with resp := x } va vc vs := by
  have hset : W.grownBy (W.setCell ⟨tb, 0, none⟩ (.string x)) (some tb) := grown_setCell W ⟨tb, 0, none⟩ (.string x)
  have h2 := h.tlt
  refine ⟨h.dc.keep fun q hq => hset.block q (by have := h.dc.lt; omega) (fun e => by injection e; have := h.dlt; omega), h.blk.set_ 0 _, h.oa.kept hset (.inr fun e => by have := own_above h.oa h.blk (by decide) tb e; omega), h.os.kept hset (.inr fun e => by have := own_above h.os h.blk (by decide) tb e; omega), h.cc.keep fun b hb' => hset.block b (by have := h.blk.lt; omega) (fun e => by injection e; omega), (hset.block _ h.res.lt (fun e => by injection e; omega)).trans h.res, ?_, ⟨hx, h.sm.dep, h.sm.day, h.sm.an, h.sm.ans, h.sm.sn, h.sm.shw, h.sm.cn, h.sm.cond⟩, h.dlt, h.tlt⟩
  exact ⟨hset.os.trans h.gw.os, hset.tape.trans h.gw.tape, hset.output.trans h.gw.output, Nat.le_trans h.gw.size hset.size, fun q hq hne => (hset.block q (Nat.lt_of_lt_of_le hq h.gw.size) (fun e => by injection e; omega)).trans (h.gw.block q hq hne)⟩
/-- The result is stored. -/
theorem GSt.fin (h : GSt w W db tb s va vc vs) : ∃ Aa ca Ac nc cc As cs, va = .slice Aa s.ans.length ca ∧ vc = .slice Ac nc cc ∧ vs = .slice As s.shw.length cs ∧
    ∀ W2, W2 = (((((W.setCell ⟨w.heap.size, 0, none⟩ (.string s.resp)).setCell ⟨w.heap.size, 1, none⟩ (.int .i64 s.dep)).setCell ⟨w.heap.size, 2, none⟩ (.int .i64 s.day)).setCell ⟨w.heap.size, 3, none⟩ va).setCell ⟨w.heap.size, 4, none⟩ vc).setCell ⟨w.heap.size, 5, none⟩ vs →
      StmE w db (.returned (.agg #[.string s.resp, .int .i64 s.dep, .int .i64 s.day, va, vc, vs])) W2 ∧ Blk W2 w.heap.size 61 #[.string s.resp, .int .i64 s.dep, .int .i64 s.day, va, vc, vs] := by
  obtain ⟨Aa, ca, rfl⟩ := own_slice h.oa
  obtain ⟨As, cs, rfl⟩ := own_slice h.os
  obtain ⟨Ac, nc, cc, rfl, -⟩ := id h.cc
  refine ⟨Aa, ca, Ac, nc, cc, As, cs, rfl, rfl, rfl, fun W2 hW2 => ?_⟩
  have hc : Chg W W2 (fun q => q = w.heap.size) := by
    rw [hW2]
    exact Chg.setCell (Chg.setCell (Chg.setCell (Chg.setCell (Chg.setCell (Chg.setCell (Chg.refl W (fun q => q = w.heap.size)) ⟨w.heap.size, 0, none⟩ (fun _ => rfl) _) ⟨w.heap.size, 1, none⟩ (fun _ => rfl) _) ⟨w.heap.size, 2, none⟩ (fun _ => rfl) _) ⟨w.heap.size, 3, none⟩ (fun _ => rfl) _) ⟨w.heap.size, 4, none⟩ (fun _ => rfl) _) ⟨w.heap.size, 5, none⟩ (fun _ => rfl) _
  have hb : Blk W2 w.heap.size 61 #[.string s.resp, .int .i64 s.dep, .int .i64 s.day, .slice Aa s.ans.length ca, .slice Ac nc cc, .slice As s.shw.length cs] := by
    rw [hW2]
    exact (((((h.res.set_ 0 _).set_ 1 _).set_ 2 _).set_ 3 _).set_ 4 _).set_ 5 _
  have hs := hc.size
  have h1 := h.dlt
  have h2 := h.tlt
  have l1 := h.blk.lt
  refine ⟨⟨s, Aa, _, ca, Ac, nc, cc, As, _, cs, rfl, ⟨((AnssAt.of_own h.oa).keep fun q hq => hc.block q hq.2 (by omega)).mono fun q hq => ⟨by omega, by omega⟩, (h.cc.keep fun q hq => hc.block q (by omega) (by omega)).mono fun q hq => ⟨by omega, by omega⟩, ((ShwsAt.of_own h.os).keep fun q hq => hc.block q hq.2 (by omega)).mono fun q hq => ⟨by omega, by omega⟩⟩, h.sm, h.dc.keep fun q hq => hc.block q (by have := h.dc.lt; omega) (by omega), ?_⟩, hb⟩
  exact ⟨hc.os.trans h.gw.os, hc.tape.trans h.gw.tape, hc.output.trans h.gw.output, Nat.le_trans h.gw.size hs, fun q hq hne => (hc.block q (Nat.lt_of_lt_of_le hq h.gw.size) (by omega)).trans (h.gw.block q hq hne)⟩
end
end Go.Proofs.YtgeahbmaeaoeeaaGreatDoor
