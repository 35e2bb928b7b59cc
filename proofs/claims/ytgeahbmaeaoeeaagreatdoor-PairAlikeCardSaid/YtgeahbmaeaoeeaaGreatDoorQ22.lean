/- Words for memory: the kit's conditions while they grow. -/
import Derived.Test.YtgeahbmaeaoeeaaGreatDoorQ21
import Derived.Test.YtgeahbmaeaoeeaaGreatDoorQ04
set_option linter.unusedVariables false
set_option linter.unusedSimpArgs false
namespace Go.Proofs.YtgeahbmaeaoeeaaGreatDoor
open Go.RowKit Num

/-- A term of the kit: short words without signs, at most three numbers behind it. -/
def KitT (t : Trm) : Prop := t.field.size ≤ 4 ∧ t.text.size ≤ 5 ∧ (∀ c ∈ blOf t.field, signB c = false) ∧ (∀ c ∈ blOf t.text, signB c = false) ∧ t.args.length ≤ 3
def szK : Nat → Nat
  | 0 => 1
  | d + 1 => 1 + 3 * szK d
theorem szK_pos (d : Nat) : 1 ≤ szK d := by cases d <;> simp only [szK] <;> omega
theorem chg_set (w : World) (g i : Nat) (u : Value) : Chg w (w.setCell ⟨g, i, none⟩ u) (fun j => j = g) := Chg.of_grown (grown_setCell w ⟨g, i, none⟩ u) (fun q hq _ => by cases hq; rfl)
/-- The condition while it grows: the dice, the block with the list of its terms, the terms; w0, v0, us0: as the call found them. -/
structure KSt (w0 wx : World) (db cb B n0 : Nat) (v0 : Value) (us0 : Nat → Value) (v : Value) (L : List Trm) (us : Nat → Value) : Prop where
  dc : Dc wx db
  blk : Blk wx cb 58 #[v]
  own : OwnTs wx B v L us
  len : n0 < L.length
  kit : ∀ t ∈ L, KitT t
  chg : Chg w0 wx (fun i => i = db ∨ i = cb ∨ v0.ownBlock = some i)
  vb : ∀ g, v.ownBlock = some g → v0.ownBlock = some g ∨ w0.heap.size ≤ g
  old : ∀ k, k < n0 → us k = us0 k
  new : ∀ k, n0 ≤ k → k < L.length → ∀ g, (us k).ownBlock = some g → w0.heap.size ≤ g
/-- The term that is made, in a block of its own. -/
structure KT (w0 wx : World) (B tb : Nat) (v : Value) (L : List Trm) (us : Nat → Value) (t : Trm) (u : Value) : Prop where
  blk : Blk wx tb 115 #[.int .i64 t.kind, .int .i64 t.num, .int .i64 t.yrs, .string t.field, .string t.text, u]
  arg : wx.ownsRow B 3 1 u t.args.length (t.args.map (Value.int .i64))
  vne : ∀ g, v.ownBlock = some g → g ≠ tb
  apart : ∀ k, k < L.length → (us k).ownBlock = none ∨ (us k).ownBlock ≠ u.ownBlock
  ub : ∀ g, u.ownBlock = some g → w0.heap.size ≤ g
  tbn : w0.heap.size ≤ tb
section
variable {w0 wx wy : World} {db cb B n0 tb : Nat} {v0 v v' u : Value} {us0 us us' : Nat → Value} {L L' : List Trm} {t : Trm} {T : Nat → Prop}
theorem KSt.keep (h : KSt w0 wx db cb B n0 v0 us0 v L us) (hc : Chg wx wy T) (hd : Dc wy db) (hcb : ¬ T cb) (hv : ∀ g, v.ownBlock = some g → ¬ T g) (hu : ∀ k, k < L.length → ∀ g, (us k).ownBlock = some g → ¬ T g)
    (hT : ∀ i, i < w0.heap.size → T i → i = db ∨ i = cb ∨ v0.ownBlock = some i) : KSt w0 wy db cb B n0 v0 us0 v L us :=
  ⟨hd, hc.blk h.blk hcb, h.own.chg hc hv hu, h.len, h.kit, h.chg.trans hc hT, h.vb, h.old, h.new⟩
theorem KSt.dice (h : KSt w0 wx db cb B n0 v0 us0 v L us) (hd : Dc wy db) (hg : wx.grownBy wy (some db)) (hdb : db < B) (hcb : B ≤ cb) : KSt w0 wy db cb B n0 v0 us0 v L us := by
  have hc : Chg wx wy (fun i => i = db) := Chg.of_grown hg (fun g hg _ => by cases hg; rfl)
  refine h.keep hc hd (by omega) (fun g hg => ?_) (fun k hk g hg => ?_) (fun i hi e => .inl e)
  · have := (h.own.row.lt g hg).1; omega
  · have := ((h.own.args k hk).lt g hg).1; omega
theorem KSt.alloc (h : KSt w0 wx db cb B n0 v0 us0 v L us) (o : Obj) : KSt w0 (wx.alloc o) db cb B n0 v0 us0 v L us :=
  h.keep (T := fun _ => False) ((Chg.refl wx _).alloc o) (h.dc.alloc o) (fun e => e) (fun _ _ e => e) (fun _ _ _ _ e => e) (fun _ _ e => e.elim)
theorem KSt.drew (h : KSt w0 wx db cb B n0 v0 us0 v L us) : KSt w0 wx.drew db cb B n0 v0 us0 v L us :=
  h.keep (T := fun _ => False) ((Chg.refl wx _).drew) h.dc (fun e => e) (fun _ _ e => e) (fun _ _ _ _ e => e) (fun _ _ e => e.elim)
theorem KT.keep (h : KT w0 wx B tb v L us t u) (hc : Chg wx wy T) (ht : ¬ T tb) (hu : ∀ g, u.ownBlock = some g → ¬ T g) : KT w0 wy B tb v L us t u :=
  ⟨hc.blk h.blk ht, hc.own h.arg hu, h.vne, h.apart, h.ub, h.tbn⟩
theorem KT.dice (h : KT w0 wx B tb v L us t u) (hg : wx.grownBy wy (some db)) (hdb : db < B) (hB : B ≤ w0.heap.size) : KT w0 wy B tb v L us t u :=
  h.keep (T := fun i => i = db) (Chg.of_grown hg (fun g hg _ => by cases hg; rfl)) (by have := h.tbn; omega) (fun g hg => by have := h.ub g hg; omega)
theorem KT.alloc (h : KT w0 wx B tb v L us t u) (o : Obj) : KT w0 (wx.alloc o) B tb v L us t u :=
  h.keep (T := fun _ => False) ((Chg.refl wx _).alloc o) (fun e => e) (fun _ _ e => e)
theorem KT.drew (h : KT w0 wx B tb v L us t u) : KT w0 wx.drew B tb v L us t u :=
  h.keep (T := fun _ => False) ((Chg.refl wx _).drew) (fun e => e) (fun _ _ e => e)
/-- The block of the term itself changes. -/
theorem KSt.inT (h : KSt w0 wx db cb B n0 v0 us0 v L us) (k : KT w0 wx B tb v L us t u) (hdb : db < B) (hB : B ≤ w0.heap.size) (hcb : cb < w0.heap.size) (i : Nat) (x : Value) : KSt w0 (wx.setCell ⟨tb, i, none⟩ x) db cb B n0 v0 us0 v L us := by
  have htb := k.tbn
  have hc : Chg wx (wx.setCell ⟨tb, i, none⟩ x) (fun i => i = tb) := chg_set wx tb i x
  refine h.keep hc (h.dc.keep fun q hq => Below.heap_setCell _ _ _ q (by show q ≠ tb; omega)) (by omega) (fun g hg => k.vne g hg) (fun j hj g hg e => ?_) (fun i hi e => by omega)
  exact own_not (h.own.args j hj) k.blk (by decide) g hg e
theorem KT.set_ (k : KT w0 wx B tb v L us t u) (i : Nat) (x : Value) (t' : Trm) (ht : t'.args = t.args) (hx : (#[.int .i64 t.kind, .int .i64 t.num, .int .i64 t.yrs, .string t.field, .string t.text, u] : Array Value).setIfInBounds i x = #[.int .i64 t'.kind, .int .i64 t'.num, .int .i64 t'.yrs, .string t'.field, .string t'.text, u]) :
    KT w0 (wx.setCell ⟨tb, i, none⟩ x) B tb v L us t' u := by
  have hb := k.blk.set_ i x
  rw [hx] at hb
  have hc : Chg wx (wx.setCell ⟨tb, i, none⟩ x) (fun i => i = tb) := chg_set wx tb i x
  refine ⟨hb, ?_, k.vne, k.apart, k.ub, k.tbn⟩
  rw [ht]
  exact hc.own k.arg (fun g hg e => own_not k.arg k.blk (by decide) g hg e)
/-- A number is put behind the term's others. -/
theorem KT.push {u' : Value} {wz : World} {m : Int} (k : KT w0 wx B tb v L us t u) (h : KSt w0 wx db cb B n0 v0 us0 v L us) (hdb : db < B) (hB : B ≤ w0.heap.size) (hcb : cb < w0.heap.size) {o : Obj}
    (hown : wz.ownsRow B 3 1 u' (t.args.length + 1) (t.args.map (Value.int .i64) ++ [.int .i64 m])) (hg : (wx.alloc o).grownBy wz u.ownBlock) (hw : u'.ownBlock = u.ownBlock ∨ ∀ g, u'.ownBlock = some g → wx.heap.size < g) :
    KSt w0 (wz.setCell ⟨tb, 5, none⟩ u') db cb B n0 v0 us0 v L us ∧ KT w0 (wz.setCell ⟨tb, 5, none⟩ u') B tb v L us { t with args := t.args ++ [m] } u' := by
  have hsz := h.chg.size
  have htbl := k.blk.lt
  have htbn := k.tbn
  have hcz : Chg wx wz (fun i => u.ownBlock = some i) := ((Chg.refl wx _).alloc o).trans (Chg.of_grown (S := fun i => u.ownBlock = some i) hg (fun g hg _ => hg)) (fun i hi e => e)
  have hne : ∀ g, u.ownBlock = some g → g ≠ tb := own_not k.arg k.blk (by decide)
  have hnc : ∀ g, u.ownBlock = some g → g ≠ cb := own_not k.arg h.blk (by decide)
  have hz : KSt w0 wz db cb B n0 v0 us0 v L us := by
    refine h.keep hcz (h.dc.keep fun q hq => hcz.block q (by have := h.dc.lt; omega) (fun e => ?_)) (fun e => hnc _ e rfl) (fun g hg e => ?_) (fun j hj g hg e => ?_) (fun i hi e => ?_)
    · have := k.ub q e; omega
    · rcases own_ne h.own.row k.arg (by decide) with e2 | e2
      · rw [e2] at hg; cases hg
      · exact e2 (hg.trans e.symm)
    · rcases k.apart j hj with e2 | e2
      · rw [e2] at hg; cases hg
      · exact e2 (hg.trans e.symm)
    · have := k.ub i e; omega
  have kb : Blk wz tb 115 #[.int .i64 t.kind, .int .i64 t.num, .int .i64 t.yrs, .string t.field, .string t.text, u] := hcz.blk k.blk (fun e => hne _ e rfl)
  have hub : ∀ g, u'.ownBlock = some g → w0.heap.size ≤ g := by
    intro g hg
    rcases hw with e | e
    · rw [e] at hg; exact k.ub g hg
    · have := e g hg; omega
  have hap : ∀ j, j < L.length → (us j).ownBlock = none ∨ (us j).ownBlock ≠ u'.ownBlock := by
    intro j hj
    rcases hw with e | e
    · rw [e]; exact k.apart j hj
    · rcases hb : (us j).ownBlock with _ | q
      · exact .inl rfl
      · refine .inr fun e2 => ?_
        have h1 := e q e2.symm
        have h2 := ((h.own.args j hj).lt q hb).2
        omega
  have kz : KT w0 wz B tb v L us { t with args := t.args ++ [m] } u' ∨ True := .inr trivial
  have hne' : ∀ g, u'.ownBlock = some g → g ≠ tb := own_not hown kb (by decide)
  have hc5 : Chg wz (wz.setCell ⟨tb, 5, none⟩ u') (fun i => i = tb) := chg_set wz tb 5 u'
  refine ⟨?_, ?_⟩
  · refine hz.keep hc5 (hz.dc.keep fun q hq => Below.heap_setCell _ _ _ q (by show q ≠ tb; omega)) (by omega) (fun g hg => k.vne g hg) (fun j hj g hg e => ?_) (fun i hi e => by omega)
    exact own_not (hz.own.args j hj) kb (by decide) g hg e
  · refine ⟨?_, ?_, k.vne, hap, hub, k.tbn⟩
    · exact kb.set_ 5 u'
    · simp only [List.length_append, List.length_cons, List.length_nil, List.map_append, List.map_cons, List.map_nil]
      exact hc5.own hown (fun g hg e => hne' g hg e)
/-- A whole condition has grown within. -/
theorem KSt.within (h : KSt w0 wx db cb B n0 v0 us0 v L us) (k : KT w0 wx B tb v L us t u) (hi : KSt wx wy db cb B L.length v us v' L' us') (hdb : db < B) (hB : B ≤ w0.heap.size) (hcb : cb < w0.heap.size) :
    KSt w0 wy db cb B n0 v0 us0 v' L' us' ∧ KT w0 wy B tb v' L' us' t u := by
  have hsz := h.chg.size
  have htbl := k.blk.lt
  have htbn := k.tbn
  refine ⟨⟨hi.dc, hi.blk, hi.own, Nat.lt_trans h.len hi.len, hi.kit, h.chg.trans hi.chg (fun i hlt e => ?_), fun g hg => ?_, fun j hj => ?_, fun j hj hj2 g hg => ?_⟩, ⟨hi.chg.blk k.blk ?_, hi.chg.own k.arg (fun g hg => ?_), fun g hg => ?_, fun j hj => ?_, k.ub, k.tbn⟩⟩
  · rcases e with e | e | e
    · exact .inl e
    · exact .inr (.inl e)
    · rcases h.vb i e with e2 | e2
      · exact .inr (.inr e2)
      · omega
  · rcases hi.vb g hg with e | e
    · exact h.vb g e
    · exact .inr (Nat.le_trans hsz e)
  · have hl := h.len
    rw [hi.old j (by omega)]; exact h.old j hj
  · by_cases e : j < L.length
    · rw [hi.old j e] at hg; exact h.new j hj e g hg
    · exact Nat.le_trans hsz (hi.new j (by omega) hj2 g hg)
  · rintro (e | e | e)
    · omega
    · omega
    · exact k.vne tb e rfl
  · rintro (e | e | e)
    · have := k.ub g hg; omega
    · have := k.ub g hg; omega
    · rcases own_ne h.own.row k.arg (by decide) with e2 | e2
      · rw [e2] at e; cases e
      · exact e2 (e.trans hg.symm)
  · rcases hi.vb g hg with e | e
    · exact k.vne g e
    · omega
  · by_cases e : j < L.length
    · rw [hi.old j e]; exact k.apart j e
    · rcases hb : (us' j).ownBlock with _ | q
      · exact .inl rfl
      · refine .inr fun e2 => ?_
        have h1 := hi.new j (by omega) hj q hb
        have h2 := (k.arg.lt q e2.symm).2
        omega
/-- The term is written to its place. -/
theorem KSt.put {g cap : Nat} (h : KSt w0 wx db cb B n0 v0 us0 (.slice (some ⟨g, 0, none⟩) L.length cap) L us) (k : KT w0 wx B tb (.slice (some ⟨g, 0, none⟩) L.length cap) L us t u) (ht : KitT t) (hdb : db < B) (hcb : B ≤ cb) :
    KSt w0 (put6 wx g n0 t u) db cb B n0 v0 us0 (.slice (some ⟨g, 0, none⟩) L.length cap) (L.set n0 t) (fun j => if j = n0 then u else us j) := by
  obtain ⟨p1, p2⟩ := h.own.put h.len t u k.arg (fun j hj _ => k.apart j hj)
  have hgB := (h.own.row.lt g rfl).1
  have hgc : g ≠ cb := own_not h.own.row h.blk (by decide) g rfl
  have hc : Chg wx (put6 wx g n0 t u) (fun i => i = g) := Chg.of_grown p2 (fun q hq _ => by cases hq; rfl)
  refine ⟨h.dc.keep fun q hq => hc.block q (by have := h.dc.lt; omega) (by omega), hc.blk h.blk (fun e => hgc e.symm), p1, by rw [List.length_set]; exact h.len, fun x hx => ?_, h.chg.trans hc (fun i hi e => ?_), h.vb, fun j hj => ?_, fun j hj hj2 q hq => ?_⟩
  · rcases List.mem_or_eq_of_mem_set hx with e | e
    · exact h.kit x e
    · rw [e]; exact ht
  · subst e
    rcases h.vb i rfl with e2 | e2
    · exact .inr (.inr e2)
    · omega
  · have e : j ≠ n0 := by omega
    simp only [if_neg e]; exact h.old j hj
  · rw [List.length_set] at hj2
    by_cases e : j = n0
    · simp only [if_pos e] at hq; exact k.ub q hq
    · simp only [if_neg e] at hq; exact h.new j hj hj2 q hq
/-- The call's first step: an empty term is put behind the others. -/
theorem KSt.start {w2 : World} {A2 : Option Addr} {cap2 : Nat} {o : Obj} (hd : Dc w0 db) (hblk : Blk w0 cb 58 #[v0]) (ho : OwnTs w0 B v0 L us0) (hkit : ∀ t ∈ L, KitT t) (hdb : db < B) (hcb : B ≤ cb)
    (hown : w2.ownsRow B 115 6 (.slice A2 (L.length + 1) cap2) (L.length + 1) (tmsC L us0 ++ tmCell trm0 (.slice none 0 0))) (hg : (w0.alloc o).grownBy w2 v0.ownBlock) (hwh : (Value.slice A2 (L.length + 1) cap2).ownBlock = v0.ownBlock ∨ ∀ g, (Value.slice A2 (L.length + 1) cap2).ownBlock = some g → w0.heap.size ≤ g) :
    KSt w0 (w2.setCell ⟨cb, 0, none⟩ (.slice A2 (L.length + 1) cap2)) db cb B L.length v0 us0 (.slice A2 (L.length + 1) cap2) (L ++ [trm0]) (fun k => if k = L.length then .slice none 0 0 else us0 k) := by
  have hpush := OwnTs.push (t := trm0) ho rfl hown hg
  have hcz : Chg w0 w2 (fun i => v0.ownBlock = some i) := ((Chg.refl w0 _).alloc o).trans (Chg.of_grown (S := fun i => v0.ownBlock = some i) hg (fun g hg _ => hg)) (fun i hi e => e)
  have hnc : ∀ g, v0.ownBlock = some g → g ≠ cb := own_not ho.row hblk (by decide)
  have hb2 : Blk w2 cb 58 #[v0] := hcz.blk hblk (fun e => hnc _ e rfl)
  have hlt := hd.lt
  have hdl : ∀ g, v0.ownBlock = some g → B ≤ g := fun g hg => (ho.row.lt g hg).1
  have hd2 : Dc w2 db := hd.keep fun q hq => hcz.block q (by omega) (fun e => by have := hdl q e; omega)
  have hnc2 : ∀ g, (Value.slice A2 (L.length + 1) cap2).ownBlock = some g → g ≠ cb := own_not hown hb2 (by decide)
  have hc5 : Chg w2 (w2.setCell ⟨cb, 0, none⟩ (.slice A2 (L.length + 1) cap2)) (fun i => i = cb) := chg_set w2 cb 0 _
  refine ⟨hd2.keep fun q hq => Below.heap_setCell _ _ _ q (by show q ≠ cb; omega), hb2.set_ 0 _, hpush.chg hc5 (fun g hg => hnc2 g hg) (fun k hk g hg e => ?_), by simp, fun x hx => ?_, ?_, fun g hg => ?_, fun k hk => ?_, fun k hk hk2 g hg => ?_⟩
  · exact own_not (hpush.args k hk) hb2 (by decide) g hg e
  · rcases List.mem_append.1 hx with e | e
    · exact hkit x e
    · rw [List.mem_singleton.1 e]
      exact ⟨by decide, by decide, by decide, by decide, by decide⟩
  · refine (hcz.mono (T := fun i => i = db ∨ i = cb ∨ v0.ownBlock = some i) (fun i _ e => .inr (.inr e))).trans hc5 (fun i _ e => .inr (.inl e))
  · rcases hwh with e | e
    · rw [e] at hg; exact .inl hg
    · exact .inr (e g hg)
  · have e : k ≠ L.length := by omega
    simp only [if_neg e]
  · have e : k = L.length := by simp at hk2; omega
    simp only [if_pos e] at hg
    cases hg
end
end Go.Proofs.YtgeahbmaeaoeeaaGreatDoor
