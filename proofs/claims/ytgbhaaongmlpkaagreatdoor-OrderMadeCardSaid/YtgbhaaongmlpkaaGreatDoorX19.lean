/- Words for memory: the kit's conditions while they grow. Words for memory: a statement while the kit (or the plays) makes it. -/
import Derived.Test.YtgbhaaongmlpkaaGreatDoorX18
import Derived.Test.YtgbhaaongmlpkaaGreatDoorX02
import Derived.Test.YtgbhaaongmlpkaaGreatDoorX17
set_option linter.unusedVariables false
set_option linter.unusedSimpArgs false
namespace Go.Proofs.YtgbhaaongmlpkaaGreatDoor
open Go.RowKit Num

/-- A term of the kit: short words without signs, at most three numbers behind it. -/
def KitT (t : Trm) : Prop := t.field.size ≤ 4 ∧ t.text.size ≤ 5 ∧ (∀ c ∈ blOf t.field, signB c = false) ∧ (∀ c ∈ blOf t.text, signB c = false) ∧ t.args.length ≤ 3
def szK : Nat → Nat
  | 0 => 1
  | d + 1 => 1 + 3 * szK d
theorem szK_pos (d : Nat) : 1 ≤ szK d := by cases d <;> simp only [szK] <;> omega
theorem chg_set (w : World) (g i : Nat) (u : Value) : Chg w (w.setCell ⟨g, i, none⟩ u) (fun j => j = g) := Chg.of_grown (grown_setCell w ⟨g, i, none⟩ u) (fun q hq _ => by cases hq; rfl)
/-- The condition while it grows: the dice, the block with the list of its terms, the terms; w0, v0, us0: as the call found them. -/
structure KSt (w0 wx : World) (db cb B n0 : Nat) (v0 : Value) (us0 : Nat → Value) (v : Value) (L : List Trm) (us : Nat → Value) : Prop where
  dc : Dc wx db
  blk : Blk wx cb 33 #[v]
  own : OwnTs wx B v L us
  len : n0 < L.length
  kit : ∀ t ∈ L, KitT t
  chg : Chg w0 wx (fun i => i = db ∨ i = cb ∨ v0.ownBlock = some i)
  vb : ∀ g, v.ownBlock = some g → v0.ownBlock = some g ∨ w0.heap.size ≤ g
  old : ∀ k, k < n0 → us k = us0 k
  new : ∀ k, n0 ≤ k → k < L.length → ∀ g, (us k).ownBlock = some g → w0.heap.size ≤ g
/-- The term that is made, in a block of its own. -/
structure KT (w0 wx : World) (B tb : Nat) (v : Value) (L : List Trm) (us : Nat → Value) (t : Trm) (u : Value) : Prop where
  blk : Blk wx tb 46 #[.int .i64 t.kind, .int .i64 t.num, .int .i64 t.yrs, .string t.field, .string t.text, u]
  arg : wx.ownsRow B 3 1 u t.args.length (t.args.map (Value.int .i64))
  vne : ∀ g, v.ownBlock = some g → g ≠ tb
  apart : ∀ k, k < L.length → (us k).ownBlock = none ∨ (us k).ownBlock ≠ u.ownBlock
  ub : ∀ g, u.ownBlock = some g → w0.heap.size ≤ g
  tbn : w0.heap.size ≤ tb
section
variable {w0 wx wy : World} {db cb B n0 tb : Nat} {v0 v v' u : Value} {us0 us us' : Nat → Value} {L L' : List Trm} {t : Trm} {T : Nat → Prop}
theorem KSt.keep (h : KSt w0 wx db cb B n0 v0 us0 v L us) (hc : Chg wx wy T) (hd : Dc wy db) (hcb : ¬ T cb) (hv : ∀ g, v.ownBlock = some g → ¬ T g) (hu : ∀ k, k < L.length → ∀ g, (us k).ownBlock = some g → ¬ T g)
    (hT : ∀ i, i < w0.heap.size → T i → i = db ∨ i = cb ∨ v0.ownBlock = some i) : KSt w0 wy db cb B n0 v0 us0 v L us :=
  ⟨hd, hc.blk h.blk hcb, h.own.chg hc hv hu, h.len, h.kit, h.chg.trans hc hT, h.vb, h.old, h.new⟩
theorem KSt.dice (h : KSt w0 wx db cb B n0 v0 us0 v L us) (hd : Dc wy db) (hg : wx.grownBy wy (some db)) (hdb : db < B) (hcb : B ≤ cb) : KSt w0 wy db cb B n0 v0 us0 v L us := by
  have hc : Chg wx wy (fun i => i = db) := Chg.of_grown hg (fun g hg _ => by cases hg; rfl)
  refine h.keep hc hd (by omega) (fun g hg => ?_) (fun k hk g hg => ?_) (fun i hi e => .inl e)
  · have := (h.own.row.lt g hg).1; omega
  · have := ((h.own.args k hk).lt g hg).1; omega
theorem KSt.alloc (h : KSt w0 wx db cb B n0 v0 us0 v L us) (o : Obj) : KSt w0 (wx.alloc o) db cb B n0 v0 us0 v L us :=
  h.keep (T := fun _ => False) ((Chg.refl wx _).alloc o) (h.dc.alloc o) (fun e => e) (fun _ _ e => e) (fun _ _ _ _ e => e) (fun _ _ e => e.elim)
theorem KSt.drew (h : KSt w0 wx db cb B n0 v0 us0 v L us) : KSt w0 wx.drew db cb B n0 v0 us0 v L us :=
  h.keep (T := fun _ => False) ((Chg.refl wx _).drew) h.dc (fun e => e) (fun _ _ e => e) (fun _ _ _ _ e => e) (fun _ _ e => e.elim)
theorem KT.keep (h : KT w0 wx B tb v L us t u) (hc : Chg wx wy T) (ht : ¬ T tb) (hu : ∀ g, u.ownBlock = some g → ¬ T g) : KT w0 wy B tb v L us t u :=
  ⟨hc.blk h.blk ht, hc.own h.arg hu, h.vne, h.apart, h.ub, h.tbn⟩
theorem KT.dice (h : KT w0 wx B tb v L us t u) (hg : wx.grownBy wy (some db)) (hdb : db < B) (hB : B ≤ w0.heap.size) : KT w0 wy B tb v L us t u :=
  h.keep (T := fun i => i = db) (Chg.of_grown hg (fun g hg _ => by cases hg; rfl)) (by have := h.tbn; omega) (fun g hg => by have := h.ub g hg; omega)
theorem KT.alloc (h : KT w0 wx B tb v L us t u) (o : Obj) : KT w0 (wx.alloc o) B tb v L us t u :=
  h.keep (T := fun _ => False) ((Chg.refl wx _).alloc o) (fun e => e) (fun _ _ e => e)
theorem KT.drew (h : KT w0 wx B tb v L us t u) : KT w0 wx.drew B tb v L us t u :=
  h.keep (T := fun _ => False) ((Chg.refl wx _).drew) (fun e => e) (fun _ _ e => e)
/-- The block of the term itself changes. -/
theorem KSt.inT (h : KSt w0 wx db cb B n0 v0 us0 v L us) (k : KT w0 wx B tb v L us t u) (hdb : db < B) (hB : B ≤ w0.heap.size) (hcb : cb < w0.heap.size) (i : Nat) (x : Value) : KSt w0 (wx.setCell ⟨tb, i, none⟩ x) db cb B n0 v0 us0 v L us := by
  have htb := k.tbn
  have hc : Chg wx (wx.setCell ⟨tb, i, none⟩ x) (fun i => i = tb) := chg_set wx tb i x
  refine h.keep hc (h.dc.keep fun q hq => Below.heap_setCell _ _ _ q (by show q ≠ tb; omega)) (by omega) (fun g hg => k.vne g hg) (fun j hj g hg e => ?_) (fun i hi e => by omega)
  exact own_not (h.own.args j hj) k.blk (by decide) g hg e
theorem KT.set_ (k : KT w0 wx B tb v L us t u) (i : Nat) (x : Value) (t' : Trm) (ht : t'.args = t.args) (hx : (#[.int .i64 t.kind, .int .i64 t.num, .int .i64 t.yrs, .string t.field, .string t.text, u] : Array Value).setIfInBounds i x = #[.int .i64 t'.kind, .int .i64 t'.num, .int .i64 t'.yrs, .string t'.field, .string t'.text, u]) :
    KT w0 (wx.setCell ⟨tb, i, none⟩ x) B tb v L us t' u := by
  have hb := k.blk.set_ i x
  rw [hx] at hb
  have hc : Chg wx (wx.setCell ⟨tb, i, none⟩ x) (fun i => i = tb) := chg_set wx tb i x
  refine ⟨hb, ?_, k.vne, k.apart, k.ub, k.tbn⟩
  rw [ht]
  exact hc.own k.arg (fun g hg e => own_not k.arg k.blk (by decide) g hg e)
/-- A number is put behind the term's others. -/
theorem KT.push {u' : Value} {wz : World} {m : Int} (k : KT w0 wx B tb v L us t u) (h : KSt w0 wx db cb B n0 v0 us0 v L us) (hdb : db < B) (hB : B ≤ w0.heap.size) (hcb : cb < w0.heap.size) {o : Obj}
    (hown : wz.ownsRow B 3 1 u' (t.args.length + 1) (t.args.map (Value.int .i64) ++ [.int .i64 m])) (hg : (wx.alloc o).grownBy wz u.ownBlock) (hw : u'.ownBlock = u.ownBlock ∨ ∀ g, u'.ownBlock = some g → wx.heap.size < g) :
    KSt w0 (wz.setCell ⟨tb, 5, none⟩ u') db cb B n0 v0 us0 v L us ∧ KT w0 (wz.setCell ⟨tb, 5, none⟩ u') B tb v L us { t with args := t.args ++ [m] } u' := by
  have hsz := h.chg.size
  have htbl := k.blk.lt
  have htbn := k.tbn
  have hcz : Chg wx wz (fun i => u.ownBlock = some i) := ((Chg.refl wx _).alloc o).trans (Chg.of_grown (S := fun i => u.ownBlock = some i) hg (fun g hg _ => hg)) (fun i hi e => e)
  have hne : ∀ g, u.ownBlock = some g → g ≠ tb := own_not k.arg k.blk (by decide)
  have hnc : ∀ g, u.ownBlock = some g → g ≠ cb := own_not k.arg h.blk (by decide)
  have hz : KSt w0 wz db cb B n0 v0 us0 v L us := by
    refine h.keep hcz (h.dc.keep fun q hq => hcz.block q (by have := h.dc.lt; omega) (fun e => ?_)) (fun e => hnc _ e rfl) (fun g hg e => ?_) (fun j hj g hg e => ?_) (fun i hi e => ?_)
    · have := k.ub q e; omega
    · rcases own_ne h.own.row k.arg (by decide) with e2 | e2
      · rw [e2] at hg; cases hg
      · exact e2 (hg.trans e.symm)
    · rcases k.apart j hj with e2 | e2
      · rw [e2] at hg; cases hg
      · exact e2 (hg.trans e.symm)
    · have := k.ub i e; omega
  have kb : Blk wz tb 46 #[.int .i64 t.kind, .int .i64 t.num, .int .i64 t.yrs, .string t.field, .string t.text, u] := hcz.blk k.blk (fun e => hne _ e rfl)
  have hub : ∀ g, u'.ownBlock = some g → w0.heap.size ≤ g := by
    intro g hg
    rcases hw with e | e
    · rw [e] at hg; exact k.ub g hg
    · have := e g hg; omega
  have hap : ∀ j, j < L.length → (us j).ownBlock = none ∨ (us j).ownBlock ≠ u'.ownBlock := by
    intro j hj
    rcases hw with e | e
    · rw [e]; exact k.apart j hj
    · rcases hb : (us j).ownBlock with _ | q
      · exact .inl rfl
      · refine .inr fun e2 => ?_
        have h1 := e q e2.symm
        have h2 := ((h.own.args j hj).lt q hb).2
        omega
  have kz : KT w0 wz B tb v L us { t with args := t.args ++ [m] } u' ∨ True := .inr trivial
  have hne' : ∀ g, u'.ownBlock = some g → g ≠ tb := own_not hown kb (by decide)
  have hc5 : Chg wz (wz.setCell ⟨tb, 5, none⟩ u') (fun i => i = tb) := chg_set wz tb 5 u'
  refine ⟨?_, ?_⟩
  · refine hz.keep hc5 (hz.dc.keep fun q hq => Below.heap_setCell _ _ _ q (by show q ≠ tb; omega)) (by omega) (fun g hg => k.vne g hg) (fun j hj g hg e => ?_) (fun i hi e => by omega)
    exact own_not (hz.own.args j hj) kb (by decide) g hg e
  · refine ⟨?_, ?_, k.vne, hap, hub, k.tbn⟩
    · exact kb.set_ 5 u'
    · simp only [List.length_append, List.length_cons, List.length_nil, List.map_append, List.map_cons, List.map_nil]
      exact hc5.own hown (fun g hg e => hne' g hg e)
/-- A whole condition has grown within. -/
theorem KSt.within (h : KSt w0 wx db cb B n0 v0 us0 v L us) (k : KT w0 wx B tb v L us t u) (hi : KSt wx wy db cb B L.length v us v' L' us') (hdb : db < B) (hB : B ≤ w0.heap.size) (hcb : cb < w0.heap.size) :
    KSt w0 wy db cb B n0 v0 us0 v' L' us' ∧ KT w0 wy B tb v' L' us' t u := by
  have hsz := h.chg.size
  have htbl := k.blk.lt
  have htbn := k.tbn
  refine ⟨⟨hi.dc, hi.blk, hi.own, Nat.lt_trans h.len hi.len, hi.kit, h.chg.trans hi.chg (fun i hlt e => ?_), fun g hg => ?_, fun j hj => ?_, fun j hj hj2 g hg => ?_⟩, ⟨hi.chg.blk k.blk ?_, hi.chg.own k.arg (fun g hg => ?_), fun g hg => ?_, fun j hj => ?_, k.ub, k.tbn⟩⟩
  · rcases e with e | e | e
    · exact .inl e
    · exact .inr (.inl e)
    · rcases h.vb i e with e2 | e2
      · exact .inr (.inr e2)
      · omega
  · rcases hi.vb g hg with e | e
    · exact h.vb g e
    · exact .inr (Nat.le_trans hsz e)
  · have hl := h.len
    rw [hi.old j (by omega)]; exact h.old j hj
  · by_cases e : j < L.length
    · rw [hi.old j e] at hg; exact h.new j hj e g hg
    · exact Nat.le_trans hsz (hi.new j (by omega) hj2 g hg)
  · rintro (e | e | e)
    · omega
    · omega
    · exact k.vne tb e rfl
  · rintro (e | e | e)
    · have := k.ub g hg; omega
    · have := k.ub g hg; omega
    · rcases own_ne h.own.row k.arg (by decide) with e2 | e2
      · rw [e2] at e; cases e
      · exact e2 (e.trans hg.symm)
  · rcases hi.vb g hg with e | e
    · exact k.vne g e
    · omega
  · by_cases e : j < L.length
    · rw [hi.old j e]; exact k.apart j e
    · rcases hb : (us' j).ownBlock with _ | q
      · exact .inl rfl
      · refine .inr fun e2 => ?_
        have h1 := hi.new j (by omega) hj q hb
        have h2 := (k.arg.lt q e2.symm).2
        omega
/-- The term is written to its place. -/
theorem KSt.put {g cap : Nat} (h : KSt w0 wx db cb B n0 v0 us0 (.slice (some ⟨g, 0, none⟩) L.length cap) L us) (k : KT w0 wx B tb (.slice (some ⟨g, 0, none⟩) L.length cap) L us t u) (ht : KitT t) (hdb : db < B) (hcb : B ≤ cb) :
    KSt w0 (put6 wx g n0 t u) db cb B n0 v0 us0 (.slice (some ⟨g, 0, none⟩) L.length cap) (L.set n0 t) (fun j => if j = n0 then u else us j) := by
  obtain ⟨p1, p2⟩ := h.own.put h.len t u k.arg (fun j hj _ => k.apart j hj)
  have hgB := (h.own.row.lt g rfl).1
  have hgc : g ≠ cb := own_not h.own.row h.blk (by decide) g rfl
  have hc : Chg wx (put6 wx g n0 t u) (fun i => i = g) := Chg.of_grown p2 (fun q hq _ => by cases hq; rfl)
  refine ⟨h.dc.keep fun q hq => hc.block q (by have := h.dc.lt; omega) (by omega), hc.blk h.blk (fun e => hgc e.symm), p1, by rw [List.length_set]; exact h.len, fun x hx => ?_, h.chg.trans hc (fun i hi e => ?_), h.vb, fun j hj => ?_, fun j hj hj2 q hq => ?_⟩
  · rcases List.mem_or_eq_of_mem_set hx with e | e
    · exact h.kit x e
    · rw [e]; exact ht
  · subst e
    rcases h.vb i rfl with e2 | e2
    · exact .inr (.inr e2)
    · omega
  · have e : j ≠ n0 := by omega
    simp only [if_neg e]; exact h.old j hj
  · rw [List.length_set] at hj2
    by_cases e : j = n0
    · simp only [if_pos e] at hq; exact k.ub q hq
    · simp only [if_neg e] at hq; exact h.new j hj hj2 q hq
/-- The call's first step: an empty term is put behind the others. -/
theorem KSt.start {w2 : World} {A2 : Option Addr} {cap2 : Nat} {o : Obj} (hd : Dc w0 db) (hblk : Blk w0 cb 33 #[v0]) (ho : OwnTs w0 B v0 L us0) (hkit : ∀ t ∈ L, KitT t) (hdb : db < B) (hcb : B ≤ cb)
    (hown : w2.ownsRow B 46 6 (.slice A2 (L.length + 1) cap2) (L.length + 1) (tmsC L us0 ++ tmCell trm0 (.slice none 0 0))) (hg : (w0.alloc o).grownBy w2 v0.ownBlock) (hwh : (Value.slice A2 (L.length + 1) cap2).ownBlock = v0.ownBlock ∨ ∀ g, (Value.slice A2 (L.length + 1) cap2).ownBlock = some g → w0.heap.size ≤ g) :
    KSt w0 (w2.setCell ⟨cb, 0, none⟩ (.slice A2 (L.length + 1) cap2)) db cb B L.length v0 us0 (.slice A2 (L.length + 1) cap2) (L ++ [trm0]) (fun k => if k = L.length then .slice none 0 0 else us0 k) := by
  have hpush := OwnTs.push (t := trm0) ho rfl hown hg
  have hcz : Chg w0 w2 (fun i => v0.ownBlock = some i) := ((Chg.refl w0 _).alloc o).trans (Chg.of_grown (S := fun i => v0.ownBlock = some i) hg (fun g hg _ => hg)) (fun i hi e => e)
  have hnc : ∀ g, v0.ownBlock = some g → g ≠ cb := own_not ho.row hblk (by decide)
  have hb2 : Blk w2 cb 33 #[v0] := hcz.blk hblk (fun e => hnc _ e rfl)
  have hlt := hd.lt
  have hdl : ∀ g, v0.ownBlock = some g → B ≤ g := fun g hg => (ho.row.lt g hg).1
  have hd2 : Dc w2 db := hd.keep fun q hq => hcz.block q (by omega) (fun e => by have := hdl q e; omega)
  have hnc2 : ∀ g, (Value.slice A2 (L.length + 1) cap2).ownBlock = some g → g ≠ cb := own_not hown hb2 (by decide)
  have hc5 : Chg w2 (w2.setCell ⟨cb, 0, none⟩ (.slice A2 (L.length + 1) cap2)) (fun i => i = cb) := chg_set w2 cb 0 _
  refine ⟨hd2.keep fun q hq => Below.heap_setCell _ _ _ q (by show q ≠ cb; omega), hb2.set_ 0 _, hpush.chg hc5 (fun g hg => hnc2 g hg) (fun k hk g hg e => ?_), by simp, fun x hx => ?_, ?_, fun g hg => ?_, fun k hk => ?_, fun k hk hk2 g hg => ?_⟩
  · exact own_not (hpush.args k hk) hb2 (by decide) g hg e
  · rcases List.mem_append.1 hx with e | e
    · exact hkit x e
    · rw [List.mem_singleton.1 e]
      exact ⟨by decide, by decide, by decide, by decide, by decide⟩
  · refine (hcz.mono (T := fun i => i = db ∨ i = cb ∨ v0.ownBlock = some i) (fun i _ e => .inr (.inr e))).trans hc5 (fun i _ e => .inr (.inl e))
  · rcases hwh with e | e
    · rw [e] at hg; exact .inl hg
    · exact .inr (e g hg)
  · have e : k ≠ L.length := by omega
    simp only [if_neg e]
  · have e : k = L.length := by simp at hk2; omega
    simp only [if_pos e] at hg
    cases hg
end
end Go.Proofs.YtgbhaaongmlpkaaGreatDoor
namespace Go.Proofs.YtgbhaaongmlpkaaGreatDoor
open Go.RowKit Num

def ansC (L : List Ans) : List Value := L.flatMap fun a => [.string a.field, .string a.text, .int .i64 a.num]
def shwC (L : List Shw) : List Value := L.flatMap fun a => [.string a.field, .string a.role]
theorem ansC_len (L : List Ans) : (ansC L).length = L.length * 3 := by
  induction L with
  | nil => rfl
  | cons a r ih => show (_ :: _ :: _ :: ansC r).length = _; simp only [List.length_cons]; omega
theorem shwC_len (L : List Shw) : (shwC L).length = L.length * 2 := by
  induction L with
  | nil => rfl
  | cons a r ih => show (_ :: _ :: shwC r).length = _; simp only [List.length_cons]; omega
theorem ansC_snoc (L : List Ans) (a : Ans) : ansC (L ++ [a]) = ansC L ++ [.string a.field, .string a.text, .int .i64 a.num] := by simp [ansC]
theorem shwC_snoc (L : List Shw) (a : Shw) : shwC (L ++ [a]) = shwC L ++ [.string a.field, .string a.role] := by simp [shwC]
theorem ansC_at : ∀ (L : List Ans) (k : Nat), k < L.length → (ansC L)[k * 3]? = some (.string (ansAt L k).field) ∧ (ansC L)[k * 3 + 1]? = some (.string (ansAt L k).text) ∧ (ansC L)[k * 3 + 2]? = some (.int .i64 (ansAt L k).num)
  | [], k, h => absurd h (Nat.not_lt_zero _)
  | a :: r, 0, _ => ⟨rfl, rfl, rfl⟩
  | a :: r, k + 1, h => by
    have := ansC_at r k (by simpa using h)
    have e : ∀ j, (ansC (a :: r))[(k + 1) * 3 + j]? = (ansC r)[k * 3 + j]? := fun j => by
      show (Value.string a.field :: Value.string a.text :: Value.int .i64 a.num :: ansC r)[(k + 1) * 3 + j]? = _
      rw [show (k + 1) * 3 + j = (k * 3 + j) + 1 + 1 + 1 by omega]
      rfl
    exact ⟨(e 0).trans this.1, (e 1).trans this.2.1, (e 2).trans this.2.2⟩
theorem shwC_at : ∀ (L : List Shw) (k : Nat), k < L.length → (shwC L)[k * 2]? = some (.string (shwAt L k).field) ∧ (shwC L)[k * 2 + 1]? = some (.string (shwAt L k).role)
  | [], k, h => absurd h (Nat.not_lt_zero _)
  | a :: r, 0, _ => ⟨rfl, rfl⟩
  | a :: r, k + 1, h => by
    have := shwC_at r k (by simpa using h)
    have e : ∀ j, (shwC (a :: r))[(k + 1) * 2 + j]? = (shwC r)[k * 2 + j]? := fun j => by
      show (Value.string a.field :: Value.string a.role :: shwC r)[(k + 1) * 2 + j]? = _
      rw [show (k + 1) * 2 + j = (k * 2 + j) + 1 + 1 by omega]
      rfl
    exact ⟨(e 0).trans this.1, (e 1).trans this.2⟩
theorem AnssAt.of_own {w : World} {B n : Nat} {v : Value} {L : List Ans} (h : w.ownsRow B 61 3 v n (ansC L)) : AnssAt w (fun b => B ≤ b ∧ b < w.heap.size) v L := by
  have hl : n = L.length := by have := h.1; rw [ansC_len] at this; omega
  rcases id h.2 with ⟨rfl, rfl⟩ | ⟨g, cap, cur, rfl, hB, hh, hnc, _⟩
  · exact ⟨none, 0, 0, rfl, hl, Nat.le_refl _, fun hn => absurd hn (Nat.lt_irrefl 0)⟩
  · refine ⟨_, n, cap, rfl, hl, hnc, fun hn => ⟨g, 0, rfl, ⟨hB, (Array.getElem?_eq_some_iff.1 hh).1⟩, fun k hk => ?_⟩⟩
    obtain ⟨a, b, c⟩ := ansC_at L k (by omega)
    rw [Nat.zero_add]
    exact ⟨own_cell h _ _ a, own_cell h _ _ b, own_cell h _ _ c⟩
theorem ShwsAt.of_own {w : World} {B n : Nat} {v : Value} {L : List Shw} (h : w.ownsRow B 65 2 v n (shwC L)) : ShwsAt w (fun b => B ≤ b ∧ b < w.heap.size) v L := by
  have hl : n = L.length := by have := h.1; rw [shwC_len] at this; omega
  rcases id h.2 with ⟨rfl, rfl⟩ | ⟨g, cap, cur, rfl, hB, hh, hnc, _⟩
  · exact ⟨none, 0, 0, rfl, hl, Nat.le_refl _, fun hn => absurd hn (Nat.lt_irrefl 0)⟩
  · refine ⟨_, n, cap, rfl, hl, hnc, fun hn => ⟨g, 0, rfl, ⟨hB, (Array.getElem?_eq_some_iff.1 hh).1⟩, fun k hk => ?_⟩⟩
    obtain ⟨a, b⟩ := shwC_at L k (by omega)
    rw [Nat.zero_add]
    exact ⟨own_cell h _ _ a, own_cell h _ _ b⟩
/-- A statement of the kit or of the plays: short texts, small numbers. -/
structure StmSm (s : Stm) : Prop where
  resp : s.resp.size ≤ 1000
  dep : -1000000000 ≤ s.dep ∧ s.dep ≤ 1000000000
  day : -1000000000 ≤ s.day ∧ s.day ≤ 1000000000
  an : s.ans.length ≤ 100
  ans : ∀ a ∈ s.ans, a.field.size ≤ 1000 ∧ a.text.size ≤ 1000 ∧ -1000000000 ≤ a.num ∧ a.num ≤ 1000000000
  sn : s.shw.length ≤ 100
  shw : ∀ a ∈ s.shw, a.field.size ≤ 1000 ∧ a.role.size ≤ 1000
  cn : s.cond.length ≤ 1000
  cond : ∀ t ∈ s.cond, KitT t
theorem ansAt_mem {L : List Ans} {k : Nat} (hk : k < L.length) : ansAt L k ∈ L := by
  unfold ansAt
  rw [List.getD_eq_getElem?_getD, List.getElem?_eq_getElem hk]
  exact List.getElem_mem hk
theorem shwAt_mem {L : List Shw} {k : Nat} (hk : k < L.length) : shwAt L k ∈ L := by
  unfold shwAt
  rw [List.getD_eq_getElem?_getD, List.getElem?_eq_getElem hk]
  exact List.getElem_mem hk
theorem StmSm.ok {s : Stm} (h : StmSm s) : StmOk s := by
  refine ⟨by have := h.resp; omega, ⟨by have := h.dep; omega, by have := h.dep; omega⟩, ⟨by have := h.day; omega, by have := h.day; omega⟩, by have := h.an; omega, fun k hk => ?_, by have := h.sn; omega, fun k hk => ?_, by have := h.cn; omega, fun t ht => ?_⟩
  · obtain ⟨a, b, c, d⟩ := h.ans _ (ansAt_mem hk)
    exact ⟨by omega, by omega, by omega, by omega⟩
  · obtain ⟨a, b⟩ := h.shw _ (shwAt_mem hk)
    exact ⟨by omega, by omega⟩
  · obtain ⟨a, b, _, _, c⟩ := h.cond t ht
    exact ⟨by omega, by omega, by omega⟩
/-- What makes a statement gives this: its lists lie in new blocks; of the old ones only the dice were changed. -/
def StmE (w : World) (db : Nat) (e : Ending) (w' : World) : Prop := ∃ s Aa na ca Ac nc cc As ns cs, e = .returned (.agg #[.string s.resp, .int .i64 s.dep, .int .i64 s.day, .slice Aa na ca, .slice Ac nc cc, .slice As ns cs]) ∧ StmAt w' (fun b => w.heap.size ≤ b ∧ b < w'.heap.size) (.slice Aa na ca) (.slice Ac nc cc) (.slice As ns cs) s ∧ StmSm s ∧ Dc w' db ∧ w.grownBy w' (some db)
def stmZ : Array Value := #[.string ⟨#[]⟩, .int .i64 0, .int .i64 0, .slice none 0 0, .slice none 0 0, .slice none 0 0]
/-- While it is made: tb: its block; the rows of its answers and shows are made behind it, its condition ahead of it; the result's block is the call's first. -/
structure GSt (w W : World) (db tb : Nat) (s : Stm) (va vc vs : Value) : Prop where
  dc : Dc W db
  blk : Blk W tb 36 #[.string s.resp, .int .i64 s.dep, .int .i64 s.day, va, vc, vs]
  oa : W.ownsRow tb 61 3 va s.ans.length (ansC s.ans)
  os : W.ownsRow tb 65 2 vs s.shw.length (shwC s.shw)
  cc : TermsAt W (fun b => w.heap.size < b ∧ b < tb) vc s.cond
  res : Blk W w.heap.size 36 stmZ
  gw : w.grownBy W (some db)
  sm : StmSm s
  dlt : db < w.heap.size
  tlt : w.heap.size < tb
section
variable {w W W' : World} {db tb : Nat} {s : Stm} {va vc vs : Value}
theorem GSt.keep (h : GSt w W db tb s va vc vs) (hd : Dc W' db) {row : Option Nat} (hg : W.grownBy W' row) (hr : ∀ q, row = some q → q = db) : GSt w W' db tb s va vc vs := by
  have h1 := h.dlt
  have h2 := h.tlt
  have l1 := h.blk.lt
  have l2 := h.res.lt
  have kb : ∀ q, q < W.heap.size → q ≠ db → W'.heap[q]? = W.heap[q]? := fun q hq hne => hg.block q hq (fun e => hne (hr q e.symm))
  have kr : ∀ v : Value, (∀ g, v.ownBlock = some g → tb ≤ g) → v.ownBlock = none ∨ v.ownBlock ≠ row := fun v hv => by
    rcases hb : v.ownBlock with _ | q
    · exact .inl rfl
    · refine .inr fun e => ?_
      have e2 := hr q e.symm
      have := hv q hb
      omega
  exact ⟨hd, (kb tb l1 (by omega)).trans h.blk, h.oa.kept hg (kr va fun g hg => (h.oa.lt g hg).1), h.os.kept hg (kr vs fun g hg => (h.os.lt g hg).1), h.cc.keep fun b hb => kb b (by omega) (by omega), (kb _ l2 (by omega)).trans h.res,
    ⟨hg.os.trans h.gw.os, hg.tape.trans h.gw.tape, hg.output.trans h.gw.output, Nat.le_trans h.gw.size hg.size, fun q hq hne => (kb q (by have := h.gw.size; omega) (fun e => hne (by rw [e]))).trans (h.gw.block q hq hne)⟩, h.sm, h1, h2⟩
theorem GSt.dice (h : GSt w W db tb s va vc vs) (hd : Dc W' db) (hg : W.grownBy W' (some db)) : GSt w W' db tb s va vc vs := h.keep hd hg (fun q hq => (Option.some.inj hq).symm)
theorem GSt.alloc (h : GSt w W db tb s va vc vs) (o : Obj) : GSt w (W.alloc o) db tb s va vc vs := h.keep (h.dc.alloc o) (World.grownBy_alloc W o none) (fun q hq => by cases hq)
theorem GSt.drew (h : GSt w W db tb s va vc vs) : GSt w W.drew db tb s va vc vs := h.keep h.dc.drew (row := none) (only_drewN (World.grownBy.refl W _) 1) (fun q hq => by cases hq)
theorem GSt.c3 (h : GSt w W db tb s va vc vs) : W.cell? ⟨tb, 3, none⟩ = some va := (h.blk.cell 3).trans rfl
theorem GSt.c5 (h : GSt w W db tb s va vc vs) : W.cell? ⟨tb, 5, none⟩ = some vs := (h.blk.cell 5).trans rfl
theorem GSt.fz (h : GSt w W db tb s va vc vs) (i : Nat) : W.frozen? ⟨tb, i, none⟩ = false := h.blk.frozen i
/-- What an append to one of the two rows leaves. -/
theorem GSt.row (h : GSt w W db tb s va vc vs) {o : Obj} {v : Value} (hv : ∀ g, v.ownBlock = some g → tb < g) (hg : (W.alloc o).grownBy W' v.ownBlock) : (∀ q, q < W.heap.size → v.ownBlock ≠ some q → W'.heap[q]? = W.heap[q]?) ∧ Dc W' db ∧ Blk W' tb 36 #[.string s.resp, .int .i64 s.dep, .int .i64 s.day, va, vc, vs] ∧ TermsAt W' (fun b => w.heap.size < b ∧ b < tb) vc s.cond ∧ Blk W' w.heap.size 36 stmZ ∧ w.grownBy W' (some db) := by
  have h1 := h.dlt
  have h2 := h.tlt
  have l1 := h.blk.lt
  have l2 := h.res.lt
  have kb : ∀ q, q < W.heap.size → v.ownBlock ≠ some q → W'.heap[q]? = W.heap[q]? := fun q hq hne => (hg.block q (by simp; omega) (fun e => hne e.symm)).trans (Below.heap_alloc W o q hq)
  have kl : ∀ q, q ≤ tb → W'.heap[q]? = W.heap[q]? := fun q hq => kb q (by omega) (fun e => by have := hv q e; omega)
  have hsz := hg.size
  simp only [World.size_alloc] at hsz
  refine ⟨kb, h.dc.keep fun q hq => kl q (by have := h.dc.lt; omega), (kl tb (Nat.le_refl _)).trans h.blk, h.cc.keep fun b hb => kl b (by omega), (kl _ (by omega)).trans h.res, ⟨hg.os.trans h.gw.os, hg.tape.trans h.gw.tape, hg.output.trans h.gw.output, by have := h.gw.size; omega, fun q hq hne => (kl q (by omega)).trans (h.gw.block q hq hne)⟩⟩
theorem own_above {B : Nat} {e : TypeId} {z n : Nat} {v : Value} {xs : List Value} (h : W.ownsRow B e z v n xs) {cs : Array Value} {t : TypeId} (hb : Blk W B t cs) (hne : t ≠ e) : ∀ g, v.ownBlock = some g → B < g := fun g hg => by
  have := (h.lt g hg).1
  have := own_not h hb hne g hg
  omega
/-- An answer is put behind the others. -/
theorem GSt.pushA (h : GSt w W db tb s va vc vs) {o : Obj} {v' : Value} {a : Ans} (hown : W'.ownsRow tb 61 3 v' (s.ans.length + 1) (ansC s.ans ++ [.string a.field, .string a.text, .int .i64 a.num])) (hg : (W.alloc o).grownBy W' va.ownBlock)
    (hl : s.ans.length + 1 ≤ 100) (ha : a.field.size ≤ 1000 ∧ a.text.size ≤ 1000 ∧ -1000000000 ≤ a.num ∧ a.num ≤ 1000000000) :
    GSt w (W'.setCell ⟨tb, 3, none⟩ v') db tb { s with ans := s.ans ++ [a] } v' vc vs ∧ W'.cell? ⟨tb, 3, none⟩ = some va ∧ W'.frozen? ⟨tb, 3, none⟩ = false := by
  obtain ⟨kb, hd, hb, hc, hr, hgw⟩ := h.row (own_above h.oa h.blk (by decide)) hg
  have hs := hg.size
  simp only [World.size_alloc] at hs
  have hos : W'.ownsRow tb 65 2 vs s.shw.length (shwC s.shw) := (h.os.alloc o).kept hg (own_ne h.os h.oa (by decide))
  have hset : W'.grownBy (W'.setCell ⟨tb, 3, none⟩ v') (some tb) := grown_setCell W' ⟨tb, 3, none⟩ v'
  have hav : ∀ g, v'.ownBlock = some g → tb < g := own_above hown hb (by decide)
  have h2 := h.tlt
  refine ⟨⟨hd.keep fun q hq => hset.block q (by have := hd.lt; omega) (fun e => by injection e; have := h.dlt; omega), hb.set_ 3 v', ?_, ?_, hc.keep fun b hb' => hset.block b (by have := hb.lt; omega) (fun e => by injection e; omega), (hset.block _ hr.lt (fun e => by injection e; omega)).trans hr, ?_, ?_, h.dlt, h.tlt⟩, (hb.cell 3).trans rfl, hb.frozen 3⟩
  · show (W'.setCell _ _).ownsRow tb _ 3 v' (s.ans ++ [a]).length (ansC (s.ans ++ [a]))
    rw [List.length_append, ansC_snoc]
    exact hown.kept hset (.inr fun e => by have := hav tb e; omega)
  · exact hos.kept hset (.inr fun e => by have := own_above hos hb (by decide) tb e; omega)
  · exact ⟨hset.os.trans hgw.os, hset.tape.trans hgw.tape, hset.output.trans hgw.output, Nat.le_trans hgw.size hset.size, fun q hq hne => (hset.block q (Nat.lt_of_lt_of_le hq hgw.size) (fun e => by injection e; omega)).trans (hgw.block q hq hne)⟩
  · refine ⟨h.sm.resp, h.sm.dep, h.sm.day, by show (s.ans ++ [a]).length ≤ 100; rw [List.length_append]; exact hl, fun x hx => ?_, h.sm.sn, h.sm.shw, h.sm.cn, h.sm.cond⟩
    rcases List.mem_append.1 hx with e | e
    · exact h.sm.ans x e
    · rw [List.mem_singleton.1 e]; exact ha
/-- A show is put behind the others. -/
theorem GSt.pushS (h : GSt w W db tb s va vc vs) {o : Obj} {v' : Value} {a : Shw} (hown : W'.ownsRow tb 65 2 v' (s.shw.length + 1) (shwC s.shw ++ [.string a.field, .string a.role])) (hg : (W.alloc o).grownBy W' vs.ownBlock)
    (hl : s.shw.length + 1 ≤ 100) (ha : a.field.size ≤ 1000 ∧ a.role.size ≤ 1000) :
    GSt w (W'.setCell ⟨tb, 5, none⟩ v') db tb { s with shw := s.shw ++ [a] } va vc v' ∧ W'.cell? ⟨tb, 5, none⟩ = some vs ∧ W'.frozen? ⟨tb, 5, none⟩ = false := by
  obtain ⟨kb, hd, hb, hc, hr, hgw⟩ := h.row (own_above h.os h.blk (by decide)) hg
  have hs := hg.size
  simp only [World.size_alloc] at hs
  have hoa : W'.ownsRow tb 61 3 va s.ans.length (ansC s.ans) := (h.oa.alloc o).kept hg (own_ne h.oa h.os (by decide))
  have hset : W'.grownBy (W'.setCell ⟨tb, 5, none⟩ v') (some tb) := grown_setCell W' ⟨tb, 5, none⟩ v'
  have hav : ∀ g, v'.ownBlock = some g → tb < g := own_above hown hb (by decide)
  have h2 := h.tlt
  refine ⟨⟨hd.keep fun q hq => hset.block q (by have := hd.lt; omega) (fun e => by injection e; have := h.dlt; omega), hb.set_ 5 v', ?_, ?_, hc.keep fun b hb' => hset.block b (by have := hb.lt; omega) (fun e => by injection e; omega), (hset.block _ hr.lt (fun e => by injection e; omega)).trans hr, ?_, ?_, h.dlt, h.tlt⟩, (hb.cell 5).trans rfl, hb.frozen 5⟩
  · exact hoa.kept hset (.inr fun e => by have := own_above hoa hb (by decide) tb e; omega)
  · show (W'.setCell _ _).ownsRow tb _ 2 v' (s.shw ++ [a]).length (shwC (s.shw ++ [a]))
    rw [List.length_append, shwC_snoc]
    exact hown.kept hset (.inr fun e => by have := hav tb e; omega)
  · exact ⟨hset.os.trans hgw.os, hset.tape.trans hgw.tape, hset.output.trans hgw.output, Nat.le_trans hgw.size hset.size, fun q hq hne => (hset.block q (Nat.lt_of_lt_of_le hq hgw.size) (fun e => by injection e; omega)).trans (hgw.block q hq hne)⟩
  · refine ⟨h.sm.resp, h.sm.dep, h.sm.day, h.sm.an, h.sm.ans, by show (s.shw ++ [a]).length ≤ 100; rw [List.length_append]; exact hl, fun x hx => ?_, h.sm.cn, h.sm.cond⟩
    rcases List.mem_append.1 hx with e | e
    · exact h.sm.shw x e
    · rw [List.mem_singleton.1 e]; exact ha
/-- The respondent is written. -/
theorem GSt.setR (h : GSt w W db tb s va vc vs) (x : ByteArray) (hx : x.size ≤ 1000) : GSt w (W.setCell ⟨tb, 0, none⟩ (.string x)) db tb { s with resp := x } va vc vs := by
  have hset : W.grownBy (W.setCell ⟨tb, 0, none⟩ (.string x)) (some tb) := grown_setCell W ⟨tb, 0, none⟩ (.string x)
  have h2 := h.tlt
  refine ⟨h.dc.keep fun q hq => hset.block q (by have := h.dc.lt; omega) (fun e => by injection e; have := h.dlt; omega), h.blk.set_ 0 _, h.oa.kept hset (.inr fun e => by have := own_above h.oa h.blk (by decide) tb e; omega), h.os.kept hset (.inr fun e => by have := own_above h.os h.blk (by decide) tb e; omega), h.cc.keep fun b hb' => hset.block b (by have := h.blk.lt; omega) (fun e => by injection e; omega), (hset.block _ h.res.lt (fun e => by injection e; omega)).trans h.res, ?_, ⟨hx, h.sm.dep, h.sm.day, h.sm.an, h.sm.ans, h.sm.sn, h.sm.shw, h.sm.cn, h.sm.cond⟩, h.dlt, h.tlt⟩
  exact ⟨hset.os.trans h.gw.os, hset.tape.trans h.gw.tape, hset.output.trans h.gw.output, Nat.le_trans h.gw.size hset.size, fun q hq hne => (hset.block q (Nat.lt_of_lt_of_le hq h.gw.size) (fun e => by injection e; omega)).trans (h.gw.block q hq hne)⟩
/-- The result is stored. -/
theorem GSt.fin (h : GSt w W db tb s va vc vs) : ∃ Aa ca Ac nc cc As cs, va = .slice Aa s.ans.length ca ∧ vc = .slice Ac nc cc ∧ vs = .slice As s.shw.length cs ∧
    ∀ W2, W2 = (((((W.setCell ⟨w.heap.size, 0, none⟩ (.string s.resp)).setCell ⟨w.heap.size, 1, none⟩ (.int .i64 s.dep)).setCell ⟨w.heap.size, 2, none⟩ (.int .i64 s.day)).setCell ⟨w.heap.size, 3, none⟩ va).setCell ⟨w.heap.size, 4, none⟩ vc).setCell ⟨w.heap.size, 5, none⟩ vs →
      StmE w db (.returned (.agg #[.string s.resp, .int .i64 s.dep, .int .i64 s.day, va, vc, vs])) W2 ∧ Blk W2 w.heap.size 36 #[.string s.resp, .int .i64 s.dep, .int .i64 s.day, va, vc, vs] := by
  obtain ⟨Aa, ca, rfl⟩ := own_slice h.oa
  obtain ⟨As, cs, rfl⟩ := own_slice h.os
  obtain ⟨Ac, nc, cc, rfl, -⟩ := id h.cc
  refine ⟨Aa, ca, Ac, nc, cc, As, cs, rfl, rfl, rfl, fun W2 hW2 => ?_⟩
  have hc : Chg W W2 (fun q => q = w.heap.size) := by
    rw [hW2]
    exact Chg.setCell (Chg.setCell (Chg.setCell (Chg.setCell (Chg.setCell (Chg.setCell (Chg.refl W (fun q => q = w.heap.size)) ⟨w.heap.size, 0, none⟩ (fun _ => rfl) _) ⟨w.heap.size, 1, none⟩ (fun _ => rfl) _) ⟨w.heap.size, 2, none⟩ (fun _ => rfl) _) ⟨w.heap.size, 3, none⟩ (fun _ => rfl) _) ⟨w.heap.size, 4, none⟩ (fun _ => rfl) _) ⟨w.heap.size, 5, none⟩ (fun _ => rfl) _
  have hb : Blk W2 w.heap.size 36 #[.string s.resp, .int .i64 s.dep, .int .i64 s.day, .slice Aa s.ans.length ca, .slice Ac nc cc, .slice As s.shw.length cs] := by
    rw [hW2]
    exact (((((h.res.set_ 0 _).set_ 1 _).set_ 2 _).set_ 3 _).set_ 4 _).set_ 5 _
  have hs := hc.size
  have h1 := h.dlt
  have h2 := h.tlt
  have l1 := h.blk.lt
  refine ⟨⟨s, Aa, _, ca, Ac, nc, cc, As, _, cs, rfl, ⟨((AnssAt.of_own h.oa).keep fun q hq => hc.block q hq.2 (by omega)).mono fun q hq => ⟨by omega, by omega⟩, (h.cc.keep fun q hq => hc.block q (by omega) (by omega)).mono fun q hq => ⟨by omega, by omega⟩, ((ShwsAt.of_own h.os).keep fun q hq => hc.block q hq.2 (by omega)).mono fun q hq => ⟨by omega, by omega⟩⟩, h.sm, h.dc.keep fun q hq => hc.block q (by have := h.dc.lt; omega) (by omega), ?_⟩, hb⟩
  exact ⟨hc.os.trans h.gw.os, hc.tape.trans h.gw.tape, hc.output.trans h.gw.output, Nat.le_trans h.gw.size hs, fun q hq hne => (hc.block q (Nat.lt_of_lt_of_le hq h.gw.size) (by omega)).trans (h.gw.block q hq hne)⟩
end
end Go.Proofs.YtgbhaaongmlpkaaGreatDoor
