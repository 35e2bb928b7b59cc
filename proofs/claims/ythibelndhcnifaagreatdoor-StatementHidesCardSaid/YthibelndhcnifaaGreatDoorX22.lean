/- Words for memory: a list of shows is copied by an append to nil. Words for memory: what the statement StatementHides keeps. Contracts: statement.Same's comparison of terms, and slices.EqualFunc with it. -/
import Derived.Test.YthibelndhcnifaaGreatDoorX20
import Derived.Laws.OwnMore
import Derived.Maps.AppendAt
import Derived.Deep.Slices
import Derived.Test.YthibelndhcnifaaGreatDoorX21
import Derived.Test.YthibelndhcnifaaGreatDoorX18
set_option linter.unusedVariables false
set_option linter.unusedSimpArgs false
namespace Go.Proofs.YthibelndhcnifaaGreatDoor
open Go.RowKit Num

/-- The cells of a list of shows, as an append reads them. -/
theorem shws_src {w : World} {S : Nat → Prop} {b off n c : Nat} {L : List Shw} (h : ShwsAt w S (.slice (some ⟨b, off, none⟩) n c) L) :
    ∀ j u, (shwC L)[j]? = some u → w.cell? ((⟨b, off, none⟩ : Addr).add j) = some u := by
  obtain ⟨A, n', c', he, hn, hnc, h4⟩ := h
  injection he with e1 e2 e3
  subst e2 e3
  intro j u hj
  have hjl : j < (shwC L).length := (List.getElem?_eq_some_iff.1 hj).1
  rw [shwC_len] at hjl
  obtain ⟨b', off', hA, hS, hc⟩ := h4 (by omega)
  rw [← e1] at hA
  injection hA with hA; injection hA with a1 a2
  subst a1 a2
  obtain ⟨x, y⟩ := shwC_at L (j / 2) (by omega)
  obtain ⟨p, q⟩ := hc (j / 2) (by omega)
  rw [Go.WideShapes.add_plain]
  rcases Nat.mod_two_eq_zero_or_one j with e | e
  · have hj2 : j / 2 * 2 = j := by omega
    rw [hj2] at x p
    rw [hj] at x
    injection x with x
    subst x
    exact p
  · have hj2 : j / 2 * 2 + 1 = j := by omega
    rw [hj2] at y
    rw [Nat.add_assoc, hj2] at q
    rw [hj] at y
    injection y with y
    subst y
    exact q
theorem shwC_one (L : List Shw) : ∀ u ∈ shwC L, u.oneCell' = true := by
  intro u hu
  unfold shwC at hu
  obtain ⟨a, _, ha⟩ := List.mem_flatMap.1 hu
  simp at ha
  rcases ha with rfl | rfl <;> rfl
/-- The run: whatever the list is. -/
theorem run_copy_shows (w : World) (ty : TypeId) (S : Nat → Prop) (A : Option Addr) (n c : Nat) (L : List Shw) (hv : ShwsAt w S (.slice A n c) L) (hl : L.length ≤ 1000000) :
    ∃ v' w', (Builtin.append_ #[31, 31] ty #[.slice none 0 0, .slice A n c]).run Tryz.prog w = .ok v' w' ∧ w'.ownsRow w.heap.size 41 2 v' L.length (shwC L) ∧ Below w.heap.size w w' := by
  obtain ⟨j0, hj, hy0, hy1, hy2⟩ := info_parts infoSw
  obtain ⟨A', n', c', he, hn, hnc, h4⟩ := id hv
  injection he with e1 e2 e3
  subst e2 e3
  cases A with
  | none =>
    have hn0 : n = 0 := by
      refine Nat.eq_zero_of_not_pos fun h => ?_
      obtain ⟨b, off, hA, -⟩ := h4 h
      rw [← e1] at hA
      cases hA
    subst hn0
    have hL : L = [] := List.eq_nil_of_length_eq_zero hn.symm
    subst hL
    refine ⟨.slice none 0 0, w, ?_, World.ownsRow_nil _ _ _ _, Below.refl _ _⟩
    simp [Builtin.append_, run_underlying Tryz.underlying31, sizeOf, typeInfo, hj, Builtin.lenOf, Builtin.firstCells]
  | some ad =>
    obtain ⟨b, off, r⟩ := ad
    by_cases hp : 0 < n
    · obtain ⟨b', off', hA, -⟩ := h4 hp
      rw [← e1] at hA
      injection hA with hA; injection hA with a1 a2 a3
      subst a1 a2 a3
      obtain ⟨v', w', hr, ho, hg, -, -⟩ := run_append_own_at (P := Tryz.prog) (w := w) w.heap.size 31 ty 41 j0 (.agg #[.string ⟨#[]⟩, .string ⟨#[]⟩]) 2 32 Tryz.underlying31 hj hy0 hy1 hy2 rfl (by decide) (.slice none 0 0) 0 [] (World.ownsRow_nil _ _ _ _) ⟨b, off, none⟩ n c (shwC L) (by rw [shwC_len, hn]) (shws_src hv) (shwC_one L) (by simp only [maxLen]; omega) (by omega) (Nat.le_refl _)
      rw [Nat.zero_add, List.nil_append, hn] at ho
      refine ⟨v', w', hr, ho, ⟨hg.os, hg.tape, hg.output, hg.size, fun q hq => hg.block q hq (by simp [Value.ownBlock])⟩⟩
    · have hn0 : n = 0 := by omega
      subst hn0
      have hL : L = [] := List.eq_nil_of_length_eq_zero hn.symm
      subst hL
      obtain ⟨v', w', hr, ho, hg, -, -⟩ := run_append_own_at (P := Tryz.prog) (w := w) w.heap.size 31 ty 41 j0 (.agg #[.string ⟨#[]⟩, .string ⟨#[]⟩]) 2 32 Tryz.underlying31 hj hy0 hy1 hy2 rfl (by decide) (.slice none 0 0) 0 [] (World.ownsRow_nil _ _ _ _) ⟨b, off, r⟩ 0 c [] rfl (fun j u h => by simp at h) (fun u h => by cases h) (by simp only [maxLen]; omega) (by omega) (Nat.le_refl _)
      exact ⟨v', w', hr, ho, ⟨hg.os, hg.tape, hg.output, hg.size, fun q hq => hg.block q hq (by simp [Value.ownBlock])⟩⟩
theorem wpList_copy_shows {w : World} {ops : Array Oper} {rest : List Oper} {o : Oper} {a : Act} {Q : Exit → Act → World → Prop} (hgd : o.guard = none) (s x : Operand)
    (ho : o.op = .call { callee := .builtin .append, args := #[s, x], argTypes := #[31, 31] })
    (hs : a.eval s = .slice none 0 0) (S : Nat → Prop) (A : Option Addr) (n c : Nat) (L : List Shw) (hv : ShwsAt w S (.slice A n c) L) (hx : a.eval x = .slice A n c) (hl : L.length ≤ 1000000)
    (h : ∀ v' w', w'.ownsRow w.heap.size 41 2 v' L.length (shwC L) → Below w.heap.size w w' → wpList Tryz.prog ops Q rest (a.put o.dst v') w') : wpList Tryz.prog ops Q (o :: rest) a w := by
  refine wpList_plain hgd fun K hK => ?_
  obtain ⟨v', w', hr, h2, h3⟩ := run_copy_shows w o.type S A n c L hv hl
  unfold Oper.wp execOp
  simp only [ho, resolve, invoke, builtin, Sem.run_bind, Sem.run_pure, Result.andThen_ok, List.map_toArray, List.map_cons, List.map_nil, hs, hx, hr]
  exact hK _ _ (h v' w' h2 h3)
end Go.Proofs.YthibelndhcnifaaGreatDoor
namespace Go.Proofs.YthibelndhcnifaaGreatDoor
open Go.RowKit Num

/-- A statement in memory, its values and its block. -/
structure BkS (W : World) (q : Nat) (va vc vs : Value) (s : Stm) : Prop where
  blk : Blk W q 33 #[.string s.resp, .int .i64 s.dep, .int .i64 s.day, va, vc, vs]
  at_ : StmAt W (· < W.heap.size) va vc vs s
section
variable {W W' : World} {q : Nat} {va vc vs : Value} {s : Stm}
theorem BkS.step (h : BkS W q va vc vs s) (hb : Below W.heap.size W W') : BkS W' q va vc vs s :=
  ⟨h.blk.below' hb h.blk.lt, (h.at_.keep fun b hB => hb.block b hB).mono fun b hB => Nat.lt_of_lt_of_le hB hb.size⟩
theorem BkS.new (h : StmAt W (· < W.heap.size) va vc vs s) : BkS (W.alloc (.cells #[.string s.resp, .int .i64 s.dep, .int .i64 s.day, va, vc, vs] 33)) W.heap.size va vc vs s :=
  ⟨Blk.new W _ _, (h.keep fun b hB => Below.heap_alloc W _ b hB).mono fun b hB => by rw [World.size_alloc]; omega⟩
theorem BkS.alloc (h : BkS W q va vc vs s) (o : Obj) : BkS (W.alloc o) q va vc vs s := h.step (below_al' W o)
end
/-- The statement that was made, in its block q, its lists ahead of it; its copy with other shows, in q7; all of it ahead of m. -/
structure HdK (w W : World) (m q : Nat) (A1 A2 A3 : Option Addr) (n1 c1 n2 c2 n3 c3 : Nat) (s : Stm) (q7 : Nat) (v7 : Value) (L : List Shw) : Prop where
  b6 : Blk W q 33 #[.string s.resp, .int .i64 s.dep, .int .i64 s.day, .slice A1 n1 c1, .slice A2 n2 c2, .slice A3 n3 c3]
  at6 : StmAt W (· < q) (.slice A1 n1 c1) (.slice A2 n2 c2) (.slice A3 n3 c3) s
  b7 : Blk W q7 33 #[.string s.resp, .int .i64 s.dep, .int .i64 s.day, .slice A1 n1 c1, .slice A2 n2 c2, v7]
  ss7 : ShwsAt W (· < m) v7 L
  old : Below w.heap.size w W
  new : w.heap.size ≤ q ∧ q < q7 ∧ q7 < m ∧ m ≤ W.heap.size
section
variable {w W W' : World} {m m' q q7 n1 n2 n3 c1 c2 c3 : Nat} {A1 A2 A3 : Option Addr} {s : Stm} {v7 : Value} {L : List Shw}
theorem HdK.chg (h : HdK w W m q A1 A2 A3 n1 c1 n2 c2 n3 c3 s q7 v7 L) (hc : Chg W W' (fun b => m ≤ b)) : HdK w W' m q A1 A2 A3 n1 c1 n2 c2 n3 c3 s q7 v7 L := by
  have hn := h.new
  have hs := hc.size
  have kb : ∀ b, b < m → W'.heap[b]? = W.heap[b]? := fun b hb => hc.block b (by omega) (by omega)
  exact ⟨(kb q (by omega)).trans h.b6, h.at6.keep fun b hB => kb b (by omega), (kb q7 (by omega)).trans h.b7, h.ss7.keep fun b hB => kb b hB,
    ⟨hc.os.trans h.old.os, hc.tape.trans h.old.tape, hc.output.trans h.old.output, Nat.le_trans h.old.size hs, fun b hB => (kb b (by omega)).trans (h.old.block b hB)⟩, by omega⟩
theorem HdK.step (h : HdK w W m q A1 A2 A3 n1 c1 n2 c2 n3 c3 s q7 v7 L) (hb : Below W.heap.size W W') : HdK w W' m q A1 A2 A3 n1 c1 n2 c2 n3 c3 s q7 v7 L :=
  h.chg ⟨hb.os, hb.tape, hb.output, hb.size, fun b hB _ => hb.block b hB⟩
theorem HdK.alloc (h : HdK w W m q A1 A2 A3 n1 c1 n2 c2 n3 c3 s q7 v7 L) (o : Obj) : HdK w (W.alloc o) m q A1 A2 A3 n1 c1 n2 c2 n3 c3 s q7 v7 L := h.step (below_al' W o)
theorem HdK.drew (h : HdK w W m q A1 A2 A3 n1 c1 n2 c2 n3 c3 s q7 v7 L) : HdK w W.drew m q A1 A2 A3 n1 c1 n2 c2 n3 c3 s q7 v7 L := h.step (Below.refl _ _).drew
theorem HdK.full (h : HdK w W m q A1 A2 A3 n1 c1 n2 c2 n3 c3 s q7 v7 L) : StmAt W (· < W.heap.size) (.slice A1 n1 c1) (.slice A2 n2 c2) (.slice A3 n3 c3) s := h.at6.mono fun b hb => by have := h.new; omega
theorem HdK.full7 (h : HdK w W m q A1 A2 A3 n1 c1 n2 c2 n3 c3 s q7 v7 L) : StmAt W (· < W.heap.size) (.slice A1 n1 c1) (.slice A2 n2 c2) v7 { s with shw := L } := ⟨h.full.aa, h.full.cc, h.ss7.mono fun b hb => by have := h.new; omega⟩
/-- The copy gets other shows. -/
theorem HdK.more (h : HdK w W m q A1 A2 A3 n1 c1 n2 c2 n3 c3 s q7 v7 L) {v9 : Value} {M : List Shw} (hb : Below W.heap.size W W') (hv : ShwsAt W' (fun b => W.heap.size ≤ b ∧ b < W'.heap.size) v9 M) (hm : m' = W'.heap.size) :
    HdK w (W'.setCell ⟨q7, 5, none⟩ v9) m' q A1 A2 A3 n1 c1 n2 c2 n3 c3 s q7 v9 M ∧ W'.cell? ⟨q7, 5, none⟩ = some v7 ∧ W'.frozen? ⟨q7, 5, none⟩ = false := by
  have h1 := h.step hb
  have l6 := h1.b6.lt
  have l7 := h.b7.lt
  have hn := h.new
  have hz := hb.size
  have ho := h1.old
  have hset : W'.grownBy (W'.setCell ⟨q7, 5, none⟩ v9) (some q7) := grown_setCell W' ⟨q7, 5, none⟩ v9
  have hss := hset.size
  have kb : ∀ b, b < W'.heap.size → b ≠ q7 → (W'.setCell ⟨q7, 5, none⟩ v9).heap[b]? = W'.heap[b]? := fun b hb hne => hset.block b hb (fun e => hne (Option.some.inj e))
  exact ⟨⟨(kb q l6 (by omega)).trans h1.b6, h1.at6.keep fun b hB => kb b (by omega) (by omega), h1.b7.set_ 5 v9, (hv.keep fun b hB => kb b hB.2 (by omega)).mono fun b hB => by omega,
    ⟨hset.os.trans ho.os, hset.tape.trans ho.tape, hset.output.trans ho.output, by have := ho.size; omega, fun b hB => (kb b (by have := ho.size; omega) (by omega)).trans (ho.block b hB)⟩, by omega⟩, (h1.b7.cell 5).trans rfl, h1.b7.frozen 5⟩
end
/-! ### Blocks that are made ahead, and lists that are none of them -/
def VsK (W : World) (X : List Nat) (v : Value) (L : List Ans) : Prop := AnssAt W (fun b => b < W.heap.size ∧ ∀ p ∈ X, b ≠ p) v L
structure ZK (W : World) (m : Nat) (X : List Nat) : Prop where
  blk : ∀ p ∈ X, m ≤ p ∧ p < W.heap.size ∧ Blk W p 33 stmZ
  nd : X.Nodup
section
variable {W W' : World} {m p : Nat} {X : List Nat} {v : Value} {L : List Ans}
theorem VsK.alloc (h : VsK W X v L) (o : Obj) : VsK (W.alloc o) (W.heap.size :: X) v L :=
  (AnssAt.keep h fun b hb => Below.heap_alloc W o b hb.1).mono fun b hb => ⟨by rw [World.size_alloc]; omega, fun p hp => by
    rcases List.mem_cons.1 hp with rfl | hp
    · omega
    · exact hb.2 p hp⟩
theorem VsK.step (h : VsK W X v L) (hb : Below W.heap.size W W') : VsK W' X v L :=
  (AnssAt.keep h fun b h1 => hb.block b h1.1).mono fun b h1 => ⟨Nat.lt_of_lt_of_le h1.1 hb.size, h1.2⟩
theorem VsK.new (h : AnssAt W' (fun b => W.heap.size ≤ b ∧ b < W'.heap.size) v L) (hz : ZK W m X) : VsK W' X v L :=
  h.mono fun b hb => ⟨hb.2, fun p hp e => by have := (hz.blk p hp).2.1; omega⟩
theorem ZK.nil (W : World) (m : Nat) : ZK W m [] := ⟨(fun p hp => by cases hp), List.nodup_nil⟩
theorem ZK.alloc (h : ZK W m X) (hm : m ≤ W.heap.size) : ZK (W.alloc (.cells stmZ 33)) m (W.heap.size :: X) :=
  ⟨fun p hp => by
    rcases List.mem_cons.1 hp with rfl | hp
    · exact ⟨hm, by simp, Blk.new W _ _⟩
    · obtain ⟨a, b, c⟩ := h.blk p hp
      exact ⟨a, by rw [World.size_alloc]; omega, c.alloc _⟩,
   List.nodup_cons.2 ⟨fun hp => by have := (h.blk _ hp).2.1; omega, h.nd⟩⟩
theorem ZK.step (h : ZK W m X) (hb : Below W.heap.size W W') : ZK W' m X :=
  ⟨fun p hp => by
    obtain ⟨a, b, c⟩ := h.blk p hp
    exact ⟨a, Nat.lt_of_lt_of_le b hb.size, c.below' hb b⟩, h.nd⟩
end
/-- A whole statement is stored. -/
theorem set6 {W : World} {p : Nat} {t : TypeId} {z0 z1 z2 z3 z4 z5 : Value} (h : Blk W p t #[z0, z1, z2, z3, z4, z5]) (u0 u1 u2 u3 u4 u5 : Value) :
    ∀ W2, W2 = (((((W.setCell ⟨p, 0, none⟩ u0).setCell ⟨p, 1, none⟩ u1).setCell ⟨p, 2, none⟩ u2).setCell ⟨p, 3, none⟩ u3).setCell ⟨p, 4, none⟩ u4).setCell ⟨p, 5, none⟩ u5 → Chg W W2 (fun b => b = p) ∧ Blk W2 p t #[u0, u1, u2, u3, u4, u5] := by
  intro W2 hW2
  subst hW2
  exact ⟨Chg.setCell (Chg.setCell (Chg.setCell (Chg.setCell (Chg.setCell (Chg.setCell (Chg.refl W (fun q => q = p)) ⟨p, 0, none⟩ (fun _ => rfl) _) ⟨p, 1, none⟩ (fun _ => rfl) _) ⟨p, 2, none⟩ (fun _ => rfl) _) ⟨p, 3, none⟩ (fun _ => rfl) _) ⟨p, 4, none⟩ (fun _ => rfl) _) ⟨p, 5, none⟩ (fun _ => rfl) _,
    (((((h.set_ 0 _).set_ 1 _).set_ 2 _).set_ 3 _).set_ 4 _).set_ 5 _⟩
section
variable {w W W' : World} {m q q7 n1 n2 n3 c1 c2 c3 p p' : Nat} {A1 A2 A3 : Option Addr} {s : Stm} {v7 v : Value} {L : List Shw} {X : List Nat} {M : List Ans}
theorem HdK.at_p (h : HdK w W m q A1 A2 A3 n1 c1 n2 c2 n3 c3 s q7 v7 L) (hc : Chg W W' (fun b => b = p)) (hp : m ≤ p) : HdK w W' m q A1 A2 A3 n1 c1 n2 c2 n3 c3 s q7 v7 L := h.chg (hc.mono fun b _ e => by rw [e]; exact hp)
theorem VsK.at_p (h : VsK W X v M) (hc : Chg W W' (fun b => b = p)) (hp : p ∈ X) : VsK W' X v M :=
  (AnssAt.keep h fun b hb => hc.block b hb.1 (hb.2 p hp)).mono fun b hb => ⟨Nat.lt_of_lt_of_le hb.1 hc.size, hb.2⟩
theorem ZK.at_p (h : ZK W m X) (hc : Chg W W' (fun b => b = p)) (hp' : p' ∈ X) (hne : p' ≠ p) : Blk W' p' 33 stmZ := (hc.block p' (h.blk p' hp').2.1 hne).trans (h.blk p' hp').2.2
end
/-- What a role sees, as a statement in memory. -/
theorem vis_at {W : World} {S : Nat → Prop} {v : Value} {s : Stm} {r : ByteArray} (h : AnssAt W S v (visS s r).ans) : StmAt W S v (.slice none 0 0) (.slice none 0 0) (visS s r) :=
  ⟨h, ⟨none, 0, 0, rfl, rfl, Nat.le_refl _, fun h => absurd h (Nat.lt_irrefl 0)⟩, ⟨none, 0, 0, rfl, rfl, Nat.le_refl _, fun h => absurd h (Nat.lt_irrefl 0)⟩⟩
end Go.Proofs.YthibelndhcnifaaGreatDoor
namespace Go.Proofs.YthibelndhcnifaaGreatDoor
open Go.RowKit Num

theorem trm_ne {k1 n1 y1 k2 n2 y2 : Int} {f1 x1 f2 x2 : ByteArray} {a1 a2 : List Int} (h : (k1 == k2) = false ∨ (n1 == n2) = false ∨ (y1 == y2) = false ∨ (f1.toList == f2.toList) = false ∨ (x1.toList == x2.toList) = false) : (⟨k1, n1, y1, f1, x1, a1⟩ : Trm) ≠ ⟨k2, n2, y2, f2, x2, a2⟩ := by
  intro e
  injection e with e0 e1 e2 e3 e4 e5
  subst e0 e1 e2 e3 e4
  simp at h
set_option maxRecDepth 100000 in
set_option maxHeartbeats 2000000 in
theorem t_Same (k1 n1 y1 k2 n2 y2 : Int) (f1 x1 f2 x2 : ByteArray) (a1 a2 : List Int) (A B : Option Addr) (p c q d : Nat) (w : World) (ha : IntsAt w (· < w.heap.size) (.slice A p c) a1) (hb : IntsAt w (· < w.heap.size) (.slice B q d) a2) (hla : a1.length ≤ 1000000) (hlb : a2.length ≤ 1000000) :
    Calls Tryz.prog 32 #[.agg #[.int .i64 k1, .int .i64 n1, .int .i64 y1, .string f1, .string x1, .slice A p c], .agg #[.int .i64 k2, .int .i64 n2, .int .i64 y2, .string f2, .string x2, .slice B q d]] w (SameB ((⟨k1, n1, y1, f1, x1, a1⟩ : Trm) = ⟨k2, n2, y2, f2, x2, a2⟩) w) := by
  have hb0 : Below w.heap.size w ((w.alloc (.cells #[.int .i64 k1, .int .i64 n1, .int .i64 y1, .string f1, .string x1, .slice A p c] 67)).alloc (.cells #[.int .i64 k2, .int .i64 n2, .int .i64 y2, .string f2, .string x2, .slice B q d] 67)) := ((Below.refl _ w).alloc (Nat.le_refl _) _).alloc (by simp) _
  have hsz := hb0.size
  have heq := q_EqI (.slice A p c) (.slice B q d) a1 a2 _ ((ha.keep fun g hg => hb0.block g hg).mono fun g hg => Nat.lt_of_lt_of_le hg hsz) ((hb.keep fun g hg => hb0.block g hg).mono fun g hg => Nat.lt_of_lt_of_le hg hsz) hla hlb
  have HEQ := Lib.hid heq
  have HB := Lib.hid hb0
  clear heq hb0 ha hb hsz
  have hno := fun (h : (k1 == k2) = false ∨ (n1 == n2) = false ∨ (y1 == y2) = false ∨ (f1.toList == f2.toList) = false ∨ (x1.toList == x2.toList) = false) => (show SameB ((⟨k1, n1, y1, f1, x1, a1⟩ : Trm) = ⟨k2, n2, y2, f2, x2, a2⟩) w (.returned (.bool false)) _ from ⟨false, rfl, ⟨fun h => (by cases h), fun e => absurd e (trm_ne h)⟩, HB.out⟩)
  have HNO := Lib.hid hno
  clear hno
  go_enter Tryz.func32, Tryz.ntmps32
  cases h0 : (k1 == k2)
  · go_wp2_with fail
    go_ret
    exact HNO.out (.inl h0)
  · cases h1 : (n1 == n2)
    · go_wp2_with fail
      go_ret
      exact HNO.out (.inr (.inl h1))
    · cases h2 : (y1 == y2)
      · go_wp2_with fail
        go_ret
        exact HNO.out (.inr (.inr (.inl h2)))
      · cases h3 : (f1.toList == f2.toList)
        · go_wp2_with fail
          go_ret
          exact HNO.out (.inr (.inr (.inr (.inl h3))))
        · cases h4 : (x1.toList == x2.toList)
          · go_wp2_with fail
            go_ret
            exact HNO.out (.inr (.inr (.inr (.inr h4))))
          · go_wp2_with fail
            refine HEQ.out.mono ?_
            rintro e w1 ⟨b, rfl, hbb, hB1⟩
            have HBB := Lib.hid hbb
            have HB1 := Lib.hid (HB.out.trans (hB1.mono HB.out.size))
            clear hbb hB1
            go_wp2_with fail
            go_ret
            refine ⟨b, rfl, ⟨fun h => ?_, fun e => HBB.out.2 (by injection e)⟩, HB1.out⟩
            rw [eq_of_beq h0, eq_of_beq h1, eq_of_beq h2, bytes_of h3, bytes_of h4, HBB.out.1 h]
set_option maxRecDepth 100000 in
set_option maxHeartbeats 4000000 in
theorem q_EqT (va vb : Value) (La Lb : List Trm) (w : World) (ha : TermsAt w (· < w.heap.size) va La) (hb : TermsAt w (· < w.heap.size) vb Lb) (hla : La.length ≤ 1000000) (hlb : Lb.length ≤ 1000000)
    (hka : ∀ t ∈ La, t.args.length ≤ 1000000) (hkb : ∀ t ∈ Lb, t.args.length ≤ 1000000) :
    Calls Tryz.prog 35 #[va, vb, .func (.func 32) #[] #[]] w (SameB (La = Lb) w) := by
  obtain ⟨A, n, c, rfl, hn, hnc, hA⟩ := ha
  obtain ⟨B, m, k, rfl, hm, hmk, hB⟩ := hb
  have n1 : n ≤ 1000000 := by omega
  have m1 : m ≤ 1000000 := by omega
  have HA := Lib.hid hA
  have HB := Lib.hid hB
  have HN := Lib.hid hn
  have HM := Lib.hid hm
  have HKA := Lib.hid hka
  have HKB := Lib.hid hkb
  clear hA hB hn hm hla hlb hka hkb
  by_cases hnm : n = m
  · subst hnm
    go_enter Tryz.func35, Tryz.ntmps35
    go_wp2_with fail
    go_loopw [7, 8, 9, 17] (fun v7 v8 v9 v17 wr => ∃ i : Nat, i ≤ n ∧ v17 = .int .i64 (i : Int) ∧ (∀ q, q < i → trmAt La q = trmAt Lb q) ∧ Below w.heap.size w wr) (fun _ _ _ v17 _ => n - (intOf v17).toNat)
    case atStart => exact ⟨0, by omega, rfl, fun q hq => absurd hq (Nat.not_lt_zero _), Below.refl _ _⟩
    case round =>
      obtain ⟨i, hi, rfl, heq, hbr⟩ := hrel
      rename World => wr
      have HE := Lib.hid heq
      have HBR := Lib.hid hbr
      have hsz := hbr.size
      clear heq hbr
      by_cases hlt : i < n
      · obtain ⟨b1, o1, rfl, hS1, hc1⟩ := HA.out (by omega)
        obtain ⟨b2, o2, rfl, hS2, hc2⟩ := HB.out (by omega)
        have hta := (hc1 i hlt).keep (S := (· < w.heap.size)) (HBR.out.block b1 hS1) (fun g hg => HBR.out.block g hg)
        have htb := (hc2 i hlt).keep (S := (· < w.heap.size)) (HBR.out.block b2 hS2) (fun g hg => HBR.out.block g hg)
        have hla : (trmAt La i).args.length ≤ 1000000 := HKA.out _ (trmAt_mem (by have := HN.out; omega))
        have hlb : (trmAt Lb i).args.length ≤ 1000000 := HKB.out _ (trmAt_mem (by have := HM.out; omega))
        obtain ⟨ta, hta'⟩ : ∃ ta, trmAt La i = ta := ⟨_, rfl⟩
        obtain ⟨tb, htb'⟩ : ∃ tb, trmAt Lb i = tb := ⟨_, rfl⟩
        rw [hta'] at hta hla
        rw [htb'] at htb hlb
        obtain ⟨k1, n1', y1, f1, x1, a1⟩ := ta
        obtain ⟨k2, n2', y2, f2, x2, a2⟩ := tb
        obtain ⟨c0, c1, c2, c3, c4, u, c5, hu⟩ := hta
        obtain ⟨d0, d1, d2, d3, d4, u', d5, hu'⟩ := htb
        dsimp only at c0 c1 c2 c3 c4 d0 d1 d2 d3 d4 hu hu' hla hlb
        obtain ⟨A1, q1, e1, hv1, -⟩ := id hu
        obtain ⟨A2, q2, e2, hv2, -⟩ := id hu'
        subst hv1 hv2
        have zi : (i : Int) < (n : Int) := by omega
        have z0 : (0 : Int) ≤ (i : Int) := by omega
        have hbl' : b2 < wr.heap.size := by omega
        have D0 : ∀ o : Obj, (wr.alloc o).cell? ⟨b2, o2 + i * 6, none⟩ = some (.int .i64 k2) := fun o => (World.cell?_alloc_lt wr o ⟨b2, o2 + i * 6, none⟩ hbl').trans d0
        have D1 : ∀ o : Obj, (wr.alloc o).cell? ⟨b2, o2 + i * 6 + 1, none⟩ = some (.int .i64 n2') := fun o => (World.cell?_alloc_lt wr o ⟨b2, o2 + i * 6 + 1, none⟩ hbl').trans d1
        have D2 : ∀ o : Obj, (wr.alloc o).cell? ⟨b2, o2 + i * 6 + 2, none⟩ = some (.int .i64 y2) := fun o => (World.cell?_alloc_lt wr o ⟨b2, o2 + i * 6 + 2, none⟩ hbl').trans d2
        have D3 : ∀ o : Obj, (wr.alloc o).cell? ⟨b2, o2 + i * 6 + 3, none⟩ = some (.string f2) := fun o => (World.cell?_alloc_lt wr o ⟨b2, o2 + i * 6 + 3, none⟩ hbl').trans d3
        have D4 : ∀ o : Obj, (wr.alloc o).cell? ⟨b2, o2 + i * 6 + 4, none⟩ = some (.string x2) := fun o => (World.cell?_alloc_lt wr o ⟨b2, o2 + i * 6 + 4, none⟩ hbl').trans d4
        have D5 : ∀ o : Obj, (wr.alloc o).cell? ⟨b2, o2 + i * 6 + 5, none⟩ = some (.slice A2 q2 e2) := fun o => (World.cell?_alloc_lt wr o ⟨b2, o2 + i * 6 + 5, none⟩ hbl').trans d5
        have HTA := Lib.hid hta'
        have HTB := Lib.hid htb'
        have hbx : Below wr.heap.size wr ((wr.alloc (.cells #[.int .i64 k1, .int .i64 n1', .int .i64 y1, .string f1, .string x1, .slice A1 q1 e1] 67)).alloc (.cells #[.int .i64 k2, .int .i64 n2', .int .i64 y2, .string f2, .string x2, .slice A2 q2 e2] 67)) := ((Below.refl _ _).alloc (Nat.le_refl _) _).alloc (by simp) _
        have hsx := hbx.size
        have hcl := t_Same k1 n1' y1 k2 n2' y2 f1 x1 f2 x2 a1 a2 A1 A2 q1 e1 q2 e2 _ ((hu.keep fun g hg => hbx.block g (by omega)).mono fun g hg => by omega) ((hu'.keep fun g hg => hbx.block g (by omega)).mono fun g hg => by omega) hla hlb
        have HCL := Lib.hid hcl
        have HX := Lib.hid (HBR.out.trans (hbx.mono hsz))
        clear hta' htb' hc1 hc2 d0 d1 d2 d3 d4 d5 hbx hcl hu hu' hsx
        go_wp2_with fail
        refine HCL.out.mono ?_
        rintro e w5 ⟨b, rfl, hbb, hB5⟩
        have HB5 := Lib.hid (HX.out.trans (hB5.mono HX.out.size))
        have HBB := Lib.hid hbb
        clear hbb hB5 HCL HX D0 D1 D2 D3 D4 D5 c0 c1 c2 c3 c4 c5
        cases b with
        | false =>
          go_wp2_with fail
          go_ret
          refine ⟨false, rfl, ⟨fun h => (by cases h), fun e => ?_⟩, HB5.out⟩
          subst e
          have h2 := HTA.out.symm.trans HTB.out
          exact absurd (HBB.out.2 h2) (by simp)
        | true =>
          go_wp2_with fail
          go_roundw
          case measure => simp [intOf]; omega
          case rel => exact ⟨i + 1, by omega, by go_num, (fun q hq => by
            by_cases e : q = i
            · subst e
              rw [HTA.out, HTB.out]; exact HBB.out.1 (by simp)
            · exact HE.out q (by omega)), HB5.out⟩
      · have zi : ¬ (i : Int) < (n : Int) := by omega
        have he : La = Lb := trms_eq (by have := HN.out; have := HM.out; omega) (fun q hq => HE.out q (by have := HN.out; omega))
        have HEQ := Lib.hid he
        clear he
        go_wp2_with fail
        go_ret
        exact ⟨true, rfl, ⟨fun _ => HEQ.out, fun _ => rfl⟩, HBR.out⟩
  · have hne : ((n : Int) == (m : Int)) = false := by simp; omega
    have hne2 : ((n : Int) != (m : Int)) = true := by simp; omega
    have he : La ≠ Lb := fun e => hnm (by rw [HN.out, HM.out, e])
    have HEQ := Lib.hid he
    clear he
    go_enter Tryz.func35, Tryz.ntmps35
    go_wp2_with fail
    go_ret
    exact ⟨false, rfl, ⟨fun h => (by cases h), fun e => absurd e HEQ.out⟩, Below.refl _ _⟩
end Go.Proofs.YthibelndhcnifaaGreatDoor
