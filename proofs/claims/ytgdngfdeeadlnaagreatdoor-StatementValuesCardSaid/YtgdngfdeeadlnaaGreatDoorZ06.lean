/- Contracts: the terms of a condition as a tree: the test ahead. And more. -/
import Derived.Test.YtgdngfdeeadlnaaGreatDoorZ05
import Derived.Test.YtgdngfdeeadlnaaGreatDoorZ03
set_option linter.unusedVariables false
set_option linter.unusedSimpArgs false
namespace Go.Proofs.YtgdngfdeeadlnaaGreatDoor
open Go.RowKit Num
theorem only_drewB (B : Nat) (w : World) (n : Nat) : Below B w (w.drewN n) := by
 induction n with
 | zero => exact Below.refl _ _
 | succ n ih => exact ih.drew
def GrowNo (w : World) (e : Ending) (w' : World) : Prop := e = .returned (.tuple #[.pointer none,.int .i64 0,.bool false]) ∧ Below w.heap.size w w'
set_option maxRecDepth 100000 in
set_option maxHeartbeats 4000000 in
theorem f_grow_out (A : Option Addr) (n c at_ d : Nat) (w : World) (hat : n ≤ at_) (hn : n ≤ 1000000) (hd2 : d ≤ 1000) (h3 : at_ ≤ 1000000) :
  Calls Tryz.prog 119 #[.slice A n c,.int .i64 (at_:Int),.int .i64 (d:Int)] w (GrowNo w):=by
 have q0:decide ((n:Int) ≤ (at_:Int))=true:=by simp; omega
 have q00:decide (n ≤ at_)=true:=by simp; omega
 go_enter Tryz.func119,Tryz.ntmps119
 go_wp2_with fail
 go_quiet (fail)
 go_wp2_with fail
 go_ret3
 exact ⟨rfl,only_drewB _ _ _⟩
set_option maxRecDepth 100000 in
set_option maxHeartbeats 4000000 in
theorem f_grow_bare (A : Option Addr) (n c b off at_ d B : Nat) (t : Trm) (w : World) (hA : A = some ⟨b,off,none⟩) (hb : b < w.heap.size) (hat : at_ < n) (hn : n ≤ 1000000) (hd : 1 ≤ d) (hd2 : d ≤ 1000) (hT : TermAt w (· < B) b (off + at_ * 6) t)
  (hf:t.field.size ≤ 4294967296) (hx:t.text.size ≤ 4294967296) (hbare:bareB t=false) :
  Calls Tryz.prog 119 #[.slice A n c,.int .i64 (at_:Int),.int .i64 (d:Int)] w (GrowNo w):=by
 have hmx:Tryz.prog.follows .mixedOrders=true:=by kernel_rfl
 subst hA
 have q0:decide ((n:Int) ≤ (at_:Int))=false:=by simp; omega
 have q1:decide ((d:Int) < 1)=false:=by simp; omega
 have q00:decide (n ≤ at_)=false:=by simp; omega
 have q11:decide (d < 1)=false:=by simp; omega
 have q12:decide (d=0)=false:=by simp; omega
 have q2:(0:Int) ≤ (at_:Int):=by omega
 have q3:(at_:Int) < (n:Int):=by omega
 obtain ⟨tk,tn,ty,tf,tt,ta⟩:=t
 obtain ⟨c0,c1,c2,c3,c4,u5,c5,hi5⟩:=hT
 have HB:=Lib.hid hbare
 obtain ⟨Aa,na,ca,rfl,hna,hca,hcell⟩:=hi5
 have KS:=Lib.hid (fun (W:World) (hW:Below w.heap.size w W) => (⟨(hW.cell (p:=⟨b,_,none⟩) hb).trans c0,(hW.cell (p:=⟨b,_,none⟩) hb).trans c1,(hW.cell (p:=⟨b,_,none⟩) hb).trans c2,(hW.cell (p:=⟨b,_,none⟩) hb).trans c3,(hW.cell (p:=⟨b,_,none⟩) hb).trans c4,(hW.cell (p:=⟨b,_,none⟩) hb).trans c5,Lib.hid hW⟩:(fun W => W.cell? ⟨b,off+at_*6,none⟩=some (.int .i64 tk) ∧ W.cell? ⟨b,off+at_*6+1,none⟩=some (.int .i64 tn) ∧ W.cell? ⟨b,off+at_*6+2,none⟩=some (.int .i64 ty) ∧ W.cell? ⟨b,off+at_*6+3,none⟩=some (.string tf) ∧ W.cell? ⟨b,off+at_*6+4,none⟩=some (.string tt) ∧ W.cell? ⟨b,off+at_*6+5,none⟩=some (.slice Aa na ca) ∧ Hid (Below w.heap.size w W)) W))
 have HS0:=Lib.hid (KS.out _ (Below.refl _ _).drew)
 clear hbare c0 c1 c2 c3 c4 c5 hna hca hcell
 go_enter Tryz.func119,Tryz.ntmps119
 go_wp2_with fail
 refine wp_region_held_drew (S:=(fun W => W.cell? ⟨b,off+at_*6,none⟩=some (.int .i64 tk) ∧ W.cell? ⟨b,off+at_*6+1,none⟩=some (.int .i64 tn) ∧ W.cell? ⟨b,off+at_*6+2,none⟩=some (.int .i64 ty) ∧ W.cell? ⟨b,off+at_*6+3,none⟩=some (.string tf) ∧ W.cell? ⟨b,off+at_*6+4,none⟩=some (.string tt) ∧ W.cell? ⟨b,off+at_*6+5,none⟩=some (.slice Aa na ca) ∧ Hid (Below w.heap.size w W))) hmx HS0.out (fun hHeld => ?_)
 refine t1 0 rfl ?_
 try simp only [pt]
 refine t1 1 rfl ?_
 try simp only [pt]
 refine t1 2 rfl ?_
 try simp only [pt]
 refine t1 3 rfl ?_
 try simp only [pt]
 refine t1 4 rfl ?_
 try simp only [pt]
 refine t1 5 rfl ?_
 try simp only [pt]
 refine t1 6 rfl ?_
 try simp only [pt]
 refine t1 7 rfl ?_
 try simp only [pt]
 refine t1 8 rfl ?_
 try simp only [pt]
 refine t1 9 rfl ?_
 try simp only [pt]
 refine t1 10 rfl ?_
 try simp only [pt]
 refine t1 11 rfl ?_
 try simp only [pt]
 refine t1 12 rfl ?_
 try simp only [pt]
 refine wpAnyH_ready (rs:=[13]) (by kernel_rfl) (by simp) ?_
 refine AllReadyH.cons rfl (fun K hK => ?_) AllReadyH.nil
 go_simp
 go_at_call 153
 refine (f_bare tk tn ty tf tt _ _ _ ta _ hf hx).mono ?_
 rintro e wk ⟨rfl,hbk⟩
 rw [HB.out]
 have HK:=Lib.hid (KS.out wk ((Below.refl w.heap.size w).drew.trans hbk))
 clear hbk
 refine hK.out _ _ (HK.out) (fun hHeld => ?_)
 clear hK K
 try simp only [pt]
 refine t1 14 rfl ?_
 try simp only [pt]
 refine t1 15 rfl ?_
 try simp only [pt]
 refine t1 16 rfl ?_
 try simp only [pt]
 refine t0 17 rfl ?_
 try simp only [pt]
 refine t0 18 rfl ?_
 try simp only [pt]
 refine t0 19 rfl ?_
 try simp only [pt]
 refine t0 20 rfl ?_
 try simp only [pt]
 refine t0 21 rfl ?_
 try simp only [pt]
 refine t0 22 rfl ?_
 try simp only [pt]
 refine t0 23 rfl ?_
 try simp only [pt]
 refine t0 24 rfl ?_
 try simp only [pt]
 refine t0 25 rfl ?_
 try simp only [pt]
 refine t0 26 rfl ?_
 try simp only [pt]
 refine t0 27 rfl ?_
 try simp only [pt]
 refine t0 28 rfl ?_
 try simp only [pt]
 refine t0 29 rfl ?_
 try simp only [pt]
 refine t0 30 rfl ?_
 try simp only [pt]
 refine t1 31 rfl ?_
 try simp only [pt]
 refine t1 32 rfl ?_
 try simp only [pt]
 refine t0 33 rfl ?_
 try simp only [pt]
 refine t0 34 rfl ?_
 try simp only [pt]
 refine t0 35 rfl ?_
 try simp only [pt]
 refine t0 36 rfl ?_
 try simp only [pt]
 refine t0 37 rfl ?_
 try simp only [pt]
 refine t0 38 rfl ?_
 try simp only [pt]
 refine t0 39 rfl ?_
 try simp only [pt]
 refine t1 40 rfl ?_
 try simp only [pt]
 refine wpAnyH_done (by kernel_rfl) ?_ _
 go_wp2_with fail
 go_ret3
 exact ⟨rfl,HK.out.2.2.2.2.2.2.out⟩
set_option maxRecDepth 100000 in
set_option maxHeartbeats 4000000 in
theorem f_grow_sev (A : Option Addr) (n c b off at_ d B : Nat) (t : Trm) (w : World) (hA : A = some ⟨b,off,none⟩) (hb : b < w.heap.size) (hat : at_ < n) (hn : n ≤ 1000000) (hd : 1 ≤ d) (hd2 : d ≤ 1000) (hT : TermAt w (· < B) b (off + at_ * 6) t)
  (hf:t.field.size ≤ 4294967296) (hx:t.text.size ≤ 4294967296) (hbare:bareB t=true) (hlen:t.args.length ≤ 1000000000) (hargs:(severalB t.kind == decide (0 < t.args.length))=false) :
  Calls Tryz.prog 119 #[.slice A n c,.int .i64 (at_:Int),.int .i64 (d:Int)] w (GrowNo w):=by
 have hmx:Tryz.prog.follows .mixedOrders=true:=by kernel_rfl
 subst hA
 have q0:decide ((n:Int) ≤ (at_:Int))=false:=by simp; omega
 have q1:decide ((d:Int) < 1)=false:=by simp; omega
 have q00:decide (n ≤ at_)=false:=by simp; omega
 have q11:decide (d < 1)=false:=by simp; omega
 have q12:decide (d=0)=false:=by simp; omega
 have q2:(0:Int) ≤ (at_:Int):=by omega
 have q3:(at_:Int) < (n:Int):=by omega
 obtain ⟨tk,tn,ty,tf,tt,ta⟩:=t
 obtain ⟨c0,c1,c2,c3,c4,u5,c5,hi5⟩:=hT
 have HB:=Lib.hid hbare
 obtain ⟨Aa,na,ca,rfl,hna,hca,hcell⟩:=hi5
 have KS:=Lib.hid (fun (W:World) (hW:Below w.heap.size w W) => (⟨(hW.cell (p:=⟨b,_,none⟩) hb).trans c0,(hW.cell (p:=⟨b,_,none⟩) hb).trans c1,(hW.cell (p:=⟨b,_,none⟩) hb).trans c2,(hW.cell (p:=⟨b,_,none⟩) hb).trans c3,(hW.cell (p:=⟨b,_,none⟩) hb).trans c4,(hW.cell (p:=⟨b,_,none⟩) hb).trans c5,Lib.hid hW⟩:(fun W => W.cell? ⟨b,off+at_*6,none⟩=some (.int .i64 tk) ∧ W.cell? ⟨b,off+at_*6+1,none⟩=some (.int .i64 tn) ∧ W.cell? ⟨b,off+at_*6+2,none⟩=some (.int .i64 ty) ∧ W.cell? ⟨b,off+at_*6+3,none⟩=some (.string tf) ∧ W.cell? ⟨b,off+at_*6+4,none⟩=some (.string tt) ∧ W.cell? ⟨b,off+at_*6+5,none⟩=some (.slice Aa na ca) ∧ Hid (Below w.heap.size w W)) W))
 have HS0:=Lib.hid (KS.out _ (Below.refl _ _).drew)
 have hv:severalB tk = !decide (0 < na):=by
  simp only at hna hargs
  rw [hna]
  cases h1:severalB tk <;> cases h2:decide (0 < ta.length) <;> simp [h1,h2] at hargs ⊢
 have HV:=Lib.hid hv
 have na1:na ≤ 1000000000:=by
  simp only at hna hlen
  omega
 clear hbare c0 c1 c2 c3 c4 c5 hna hca hcell hargs hv hlen
 by_cases hp:0 < na
 ·have p1:decide ((0:Int) < (na:Int))=true:=by simp; omega
  have p2:decide (0 < na)=true:=by simp; omega
  rw [p2] at HV
  go_enter Tryz.func119,Tryz.ntmps119
  go_wp2_with fail
  refine wp_region_held_drew (S:=(fun W => W.cell? ⟨b,off+at_*6,none⟩=some (.int .i64 tk) ∧ W.cell? ⟨b,off+at_*6+1,none⟩=some (.int .i64 tn) ∧ W.cell? ⟨b,off+at_*6+2,none⟩=some (.int .i64 ty) ∧ W.cell? ⟨b,off+at_*6+3,none⟩=some (.string tf) ∧ W.cell? ⟨b,off+at_*6+4,none⟩=some (.string tt) ∧ W.cell? ⟨b,off+at_*6+5,none⟩=some (.slice Aa na ca) ∧ Hid (Below w.heap.size w W))) hmx HS0.out (fun hHeld => ?_)
  refine t1 0 rfl ?_
  try simp only [pt]
  refine t1 1 rfl ?_
  try simp only [pt]
  refine t1 2 rfl ?_
  try simp only [pt]
  refine t1 3 rfl ?_
  try simp only [pt]
  refine t1 4 rfl ?_
  try simp only [pt]
  refine t1 5 rfl ?_
  try simp only [pt]
  refine t1 6 rfl ?_
  try simp only [pt]
  refine t1 7 rfl ?_
  try simp only [pt]
  refine t1 8 rfl ?_
  try simp only [pt]
  refine t1 9 rfl ?_
  try simp only [pt]
  refine t1 10 rfl ?_
  try simp only [pt]
  refine t1 11 rfl ?_
  try simp only [pt]
  refine t1 12 rfl ?_
  try simp only [pt]
  refine wpAnyH_ready (rs:=[13]) (by kernel_rfl) (by simp) ?_
  refine AllReadyH.cons rfl (fun K hK => ?_) AllReadyH.nil
  go_simp
  go_at_call 153
  refine (f_bare tk tn ty tf tt _ _ _ ta _ hf hx).mono ?_
  rintro e wk ⟨rfl,hbk⟩
  rw [HB.out]
  have HK:=Lib.hid (KS.out wk ((Below.refl w.heap.size w).drew.trans hbk))
  clear hbk
  refine hK.out _ _ (HK.out) (fun hHeld => ?_)
  clear hK K
  try simp only [pt]
  refine t1 14 rfl ?_
  try simp only [pt]
  refine t1 15 rfl ?_
  try simp only [pt]
  refine t1 16 rfl ?_
  try simp only [pt]
  refine t1 17 rfl ?_
  try simp only [pt]
  refine t1 18 rfl ?_
  try simp only [pt]
  refine t1 19 rfl ?_
  try simp only [pt]
  refine t1 20 rfl ?_
  try simp only [pt]
  refine t1 21 rfl ?_
  try simp only [pt]
  refine t1 23 rfl ?_
  try simp only [pt]
  refine t1 24 rfl ?_
  try simp only [pt]
  refine t1 25 rfl ?_
  try simp only [pt]
  refine t1 26 rfl ?_
  try simp only [pt]
  refine t1 27 rfl ?_
  try simp only [pt]
  refine t1 28 rfl ?_
  try simp only [pt]
  refine t1 29 rfl ?_
  try simp only [pt]
  refine wpAnyH_ready (rs:=[22]) (by kernel_rfl) (by simp) ?_
  refine AllReadyH.cons rfl (fun K hK => ?_) AllReadyH.nil
  go_simp
  go_at_call 154
  refine (f_several tk _).mono ?_
  rintro e wk' ⟨rfl,rfl⟩
  rw [HV.out]
  refine hK.out _ _ (HK.out) (fun hHeld => ?_)
  clear hK K
  try simp only [pt]
  refine t1 30 rfl ?_
  try simp only [pt]
  refine t1 31 rfl ?_
  try simp only [pt]
  refine t1 32 rfl ?_
  try simp only [pt]
  refine t0 33 rfl ?_
  try simp only [pt]
  refine t0 34 rfl ?_
  try simp only [pt]
  refine t0 35 rfl ?_
  try simp only [pt]
  refine t0 36 rfl ?_
  try simp only [pt]
  refine t0 37 rfl ?_
  try simp only [pt]
  refine t0 38 rfl ?_
  try simp only [pt]
  refine t0 39 rfl ?_
  try simp only [pt]
  refine t1 40 rfl ?_
  try simp only [pt]
  refine wpAnyH_done (by kernel_rfl) ?_ _
  go_wp2_with fail
  go_ret3
  exact ⟨rfl,HK.out.2.2.2.2.2.2.out⟩
 ·have p1:decide ((0:Int) < (na:Int))=false:=by simp; omega
  have p2:decide (0 < na)=false:=by simp; omega
  rw [p2] at HV
  go_enter Tryz.func119,Tryz.ntmps119
  go_wp2_with fail
  refine wp_region_held_drew (S:=(fun W => W.cell? ⟨b,off+at_*6,none⟩=some (.int .i64 tk) ∧ W.cell? ⟨b,off+at_*6+1,none⟩=some (.int .i64 tn) ∧ W.cell? ⟨b,off+at_*6+2,none⟩=some (.int .i64 ty) ∧ W.cell? ⟨b,off+at_*6+3,none⟩=some (.string tf) ∧ W.cell? ⟨b,off+at_*6+4,none⟩=some (.string tt) ∧ W.cell? ⟨b,off+at_*6+5,none⟩=some (.slice Aa na ca) ∧ Hid (Below w.heap.size w W))) hmx HS0.out (fun hHeld => ?_)
  refine t1 0 rfl ?_
  try simp only [pt]
  refine t1 1 rfl ?_
  try simp only [pt]
  refine t1 2 rfl ?_
  try simp only [pt]
  refine t1 3 rfl ?_
  try simp only [pt]
  refine t1 4 rfl ?_
  try simp only [pt]
  refine t1 5 rfl ?_
  try simp only [pt]
  refine t1 6 rfl ?_
  try simp only [pt]
  refine t1 7 rfl ?_
  try simp only [pt]
  refine t1 8 rfl ?_
  try simp only [pt]
  refine t1 9 rfl ?_
  try simp only [pt]
  refine t1 10 rfl ?_
  try simp only [pt]
  refine t1 11 rfl ?_
  try simp only [pt]
  refine t1 12 rfl ?_
  try simp only [pt]
  refine wpAnyH_ready (rs:=[13]) (by kernel_rfl) (by simp) ?_
  refine AllReadyH.cons rfl (fun K hK => ?_) AllReadyH.nil
  go_simp
  go_at_call 153
  refine (f_bare tk tn ty tf tt _ _ _ ta _ hf hx).mono ?_
  rintro e wk ⟨rfl,hbk⟩
  rw [HB.out]
  have HK:=Lib.hid (KS.out wk ((Below.refl w.heap.size w).drew.trans hbk))
  clear hbk
  refine hK.out _ _ (HK.out) (fun hHeld => ?_)
  clear hK K
  try simp only [pt]
  refine t1 14 rfl ?_
  try simp only [pt]
  refine t1 15 rfl ?_
  try simp only [pt]
  refine t1 16 rfl ?_
  try simp only [pt]
  refine t1 17 rfl ?_
  try simp only [pt]
  refine t1 18 rfl ?_
  try simp only [pt]
  refine t1 19 rfl ?_
  try simp only [pt]
  refine t1 20 rfl ?_
  try simp only [pt]
  refine t1 21 rfl ?_
  try simp only [pt]
  refine t1 23 rfl ?_
  try simp only [pt]
  refine t1 24 rfl ?_
  try simp only [pt]
  refine t1 25 rfl ?_
  try simp only [pt]
  refine t1 26 rfl ?_
  try simp only [pt]
  refine t1 27 rfl ?_
  try simp only [pt]
  refine t1 28 rfl ?_
  try simp only [pt]
  refine t1 29 rfl ?_
  try simp only [pt]
  refine wpAnyH_ready (rs:=[22]) (by kernel_rfl) (by simp) ?_
  refine AllReadyH.cons rfl (fun K hK => ?_) AllReadyH.nil
  go_simp
  go_at_call 154
  refine (f_several tk _).mono ?_
  rintro e wk' ⟨rfl,rfl⟩
  rw [HV.out]
  refine hK.out _ _ (HK.out) (fun hHeld => ?_)
  clear hK K
  try simp only [pt]
  refine t1 30 rfl ?_
  try simp only [pt]
  refine t1 31 rfl ?_
  try simp only [pt]
  refine t1 32 rfl ?_
  try simp only [pt]
  refine t0 33 rfl ?_
  try simp only [pt]
  refine t0 34 rfl ?_
  try simp only [pt]
  refine t0 35 rfl ?_
  try simp only [pt]
  refine t0 36 rfl ?_
  try simp only [pt]
  refine t0 37 rfl ?_
  try simp only [pt]
  refine t0 38 rfl ?_
  try simp only [pt]
  refine t0 39 rfl ?_
  try simp only [pt]
  refine t1 40 rfl ?_
  try simp only [pt]
  refine wpAnyH_done (by kernel_rfl) ?_ _
  go_wp2_with fail
  go_ret3
  exact ⟨rfl,HK.out.2.2.2.2.2.2.out⟩
theorem grown_setCell (w : World) (p : Addr) (v : Value) : w.grownBy (w.setCell p v) (some p.block) :=
 ⟨rfl,rfl,rfl,by simp [World.setCell],fun i _ hn => Below.heap_setCell w p v i (fun e => hn (by rw [e]))⟩
theorem Blk.below' {w w' : World} {g B : Nat} {t : TypeId} {cs : Array Value} (h : Blk w g t cs) (hb : Below B w w') (hg : g < B) : Blk w' g t cs := (hb.block g hg).trans h
theorem Blk.grown' {w w' : World} {g : Nat} {t : TypeId} {cs : Array Value} {row : Option Nat} (h : Blk w g t cs) (hb : w.grownBy w' row) (hg : some g ≠ row) : Blk w' g t cs := (hb.block g h.lt hg).trans h
def KidS (B bt : Nat) (u : Value) (w : World) (c : Nat) : Prop := c < B ∨ (bt < c ∧ c < w.heap.size ∧ u.ownBlock ≠ some c)
def Kids (w : World) (S : Nat → Prop) (d : Nat) (ps : List Value) (xs : List Tree) : Prop := ∀ (i : Nat) (x : Tree),xs[i]? = some x → ∃ p,ps[i]? = some p ∧ TreeAt w S d p x
theorem Kids.keep {w w' : World} {S T : Nat → Prop} {d : Nat} {ps : List Value} {xs : List Tree} (h : Kids w S d ps xs) (hk : ∀ b,S b → w'.heap[b]? = w.heap[b]?) (hm : ∀ b,S b → T b) : Kids w' T d ps xs := by
 intro i x hx
 obtain ⟨p,hp,ht⟩:=h i x hx
 exact ⟨p,hp,(ht.keep hk).mono hm⟩
theorem Kids.snoc {w : World} {S : Nat → Prop} {d : Nat} {ps : List Value} {xs : List Tree} {p : Value} {x : Tree} (h : Kids w S d ps xs) (hl : ps.length = xs.length) (hx : TreeAt w S d p x) : Kids w S d (ps ++ [p]) (xs ++ [x]) := by
 intro i y hy
 rcases Nat.lt_or_ge i xs.length with hi | hi
 ·rw [List.getElem?_append_left hi] at hy
  obtain ⟨q,hq,ht⟩:=h i y hy
  exact ⟨q,by rw [List.getElem?_append_left (by omega)]; exact hq,ht⟩
 ·rw [List.getElem?_append_right hi] at hy
  have h0:i - xs.length=0:=by
   rcases Nat.eq_zero_or_pos (i - xs.length) with h | h
   ·exact h
   ·rw [List.getElem?_eq_none (by simp; omega)] at hy; cases hy
  rw [h0] at hy
  injection hy with hy
  subst hy
  exact ⟨p,by rw [List.getElem?_append_right (by omega),show i - ps.length=0 by omega]; rfl,hx⟩
abbrev tmC (t : Trm) (ta u : Value) : Array Value := #[.int .i64 t.kind,.int .i64 t.num,.int .i64 t.yrs,.string t.field,.string t.text,ta,u]
structure GrowK (w : World) (B bt : Nat) (t : Trm) (ta : Value) (d : Nat) (wr : World) (k : Nat) (xs : List Tree) (u : Value) (ps : List Value) : Prop where
  lo : w.heap.size ≤ bt
  hi : B ≤ w.heap.size
  bel : Below w.heap.size w wr
  blk : Blk wr bt 169 (tmC t ta u)
  args : IntsAt wr (· < B) ta t.args
  len : xs.length = k
  own : wr.ownsRow (bt + 1) 138 1 u k ps
  kids : Kids wr (KidS B bt u wr) d ps xs
section
variable {w wr w1 w2 : World} {B bt d k : Nat} {t : Trm} {ta u u' p : Value} {xs : List Tree} {ps : List Value} {x : Tree}
theorem GrowK.start {wk : World} (hb : Below w.heap.size w wk) (hB : B ≤ w.heap.size) (hi : IntsAt w (· < B) ta t.args) :
  GrowK w B wk.heap.size t ta d (wk.alloc (.cells (tmC t ta (.slice none 0 0)) 169)) 0 [] (.slice none 0 0) []:=by
 have hb2:Below w.heap.size w (wk.alloc (.cells (tmC t ta (.slice none 0 0)) 169)):=hb.alloc hb.size _
 exact ⟨hb.size,hB,hb2,Blk.new _ _ _,hi.keep fun b hbB => hb2.block b (by omega),rfl,World.ownsRow_nil _ _ _ _,fun i x hx => by simp at hx⟩
theorem GrowK.call (h : GrowK w B bt t ta d wr k xs u ps) (hb : Below wr.heap.size wr w1) : GrowK w B bt t ta d w1 k xs u ps := by
 have hs:=h.bel.size
 have hlt:=h.blk.lt
 refine ⟨h.lo,h.hi,h.bel.trans (hb.mono hs),h.blk.below' hb hlt,h.args.keep fun b hbB => hb.block b (by have:=h.hi; omega),h.len,?_,?_⟩
 ·exact h.own.kept (only_of_below hb none) (by cases u.ownBlock <;> simp)
 ·refine h.kids.keep (fun b hS => hb.block b ?_) (fun b hS => ?_)
  ·rcases hS with h1 | ⟨h1,h2,_⟩
   ·have:=h.hi; omega
   ·exact h2
  ·rcases hS with h1 | ⟨h1,h2,h3⟩
   ·exact .inl h1
   ·exact .inr ⟨h1,Nat.lt_of_lt_of_le h2 hb.size,h3⟩
theorem GrowK.append (h : GrowK w B bt t ta d w1 k xs u ps) {s : Nat} (hs : bt < s) (hus : ∀ g,u.ownBlock = some g → g < s) (hx : TreeAt w1 (fun c => c < B ∨ (s ≤ c ∧ c < w1.heap.size)) d p x) {o : Obj}
  (hown:w2.ownsRow (bt+1) 138 1 u' (k+1) (ps ++ [p])) (hg:(w1.alloc o).grownBy w2 u.ownBlock) (hw:u'.ownBlock=u.ownBlock ∨ u'.ownBlock=some (w1.heap.size+1)) :
  GrowK w B bt t ta d (w2.setCell ⟨bt,6,none⟩ u') (k+1) (xs ++ [x]) u' (ps ++ [p]):=by
 have hlt:=h.blk.lt
 have hbl:∀ g,u.ownBlock=some g → bt+1 ≤ g ∧ g < w1.heap.size:=h.own.lt
 have hne:some bt ≠ u.ownBlock:=fun e => by have:=(hbl bt e.symm).1; omega
 have hsz1:(w1.alloc o).heap.size=w1.heap.size+1:=by simp
 have hsz:w1.heap.size+1 ≤ w2.heap.size:=by rw [← hsz1]; exact hg.size
 have key:∀ c,c < w1.heap.size → u.ownBlock ≠ some c → c ≠ bt → (w2.setCell ⟨bt,6,none⟩ u').heap[c]?=w1.heap[c]?:=fun c hc hn hb =>
  ((Below.heap_setCell w2 ⟨bt,6,none⟩ u' c hb).trans (hg.block c (by omega) (fun e => hn e.symm))).trans (Below.heap_alloc w1 o c hc)
 have hb2:Below w.heap.size w (w2.setCell ⟨bt,6,none⟩ u'):=by
  have hlo:=h.lo
  exact ((h.bel.alloc (by have:=h.bel.size; omega) o).grown hg (by rw [hsz1]; have:=h.bel.size; omega) (fun g hg' => by have:=(hbl g hg').1; omega)).setCell (p:=⟨bt,6,none⟩) hlo u'
 have hsz3:(w2.setCell ⟨bt,6,none⟩ u').heap.size=w2.heap.size:=by simp [World.setCell]
 refine ⟨h.lo,h.hi,hb2,?_,?_,by simp [h.len],?_,?_⟩
 ·have:=(Blk.grown' (h.blk.alloc o) hg hne).set_ 6 u'
  exact this
 ·refine h.args.keep fun b hbB => key b ?_ ?_ ?_
  ·have:=h.hi; have:=h.bel.size; omega
  ·intro e; have:=(hbl b e).1; have:=h.hi; have:=h.lo; omega
  ·have:=h.hi; have:=h.lo; omega
 ·refine hown.kept (grown_setCell w2 ⟨bt,6,none⟩ u') ?_
  right
  intro e
  have:=(hown.lt bt e).1
  omega
 ·refine Kids.snoc (h.kids.keep (fun b hS => ?_) (fun b hS => ?_)) (by have:=h.own.1; have:=h.len; omega) ((hx.keep (fun b hS => ?_)).mono (fun b hS => ?_))
  ·rcases hS with h1 | ⟨h1,h2,h3⟩
   ·exact key b (by have:=h.hi; have:=h.bel.size; omega) (fun e => by have:=(hbl b e).1; have:=h.hi; have:=h.lo; omega) (by have:=h.hi; have:=h.lo; omega)
   ·exact key b h2 h3 (by omega)
  ·rcases hS with h1 | ⟨h1,h2,h3⟩
   ·exact .inl h1
   ·refine .inr ⟨h1,by omega,?_⟩
    rcases hw with e | e
    ·rw [e]; exact h3
    ·rw [e]; intro e'; injection e' with e'; omega
  ·rcases hS with h1 | ⟨h1,h2⟩
   ·exact key b (by have:=h.hi; have:=h.bel.size; omega) (fun e => by have:=(hbl b e).1; have:=h.hi; have:=h.lo; omega) (by have:=h.hi; have:=h.lo; omega)
   ·exact key b h2 (fun e => by have:=hus b e; omega) (by omega)
  ·rcases hS with h1 | ⟨h1,h2⟩
   ·exact .inl h1
   ·refine .inr ⟨by omega,by omega,?_⟩
    rcases hw with e | e
    ·rw [e]; intro e'; have:=hus b e'; omega
    ·rw [e]; intro e'; injection e' with e'; omega
theorem GrowK.tree (h : GrowK w B bt t ta d wr k xs u ps) : TreeAt wr (fun c => c < B ∨ (w.heap.size ≤ c ∧ c < wr.heap.size)) (d + 1) (.pointer (some ⟨bt,0,none⟩)) (.node t xs) := by
 have hlt:=h.blk.lt
 obtain ⟨A,n,c,rfl,hn,hc⟩:∃ A n c,u=.slice A n c ∧ n=k ∧ n ≤ c:=by
  rcases h.own.2 with ⟨h1,h2⟩ | ⟨g,cap,cur,h1,_,_,h2,_⟩
  ·exact ⟨_,_,_,h1,h2.symm,Nat.le_refl _⟩
  ·exact ⟨_,_,_,h1,rfl,h2⟩
 refine ⟨bt,rfl,.inr ⟨h.lo,hlt⟩,⟨h.blk.cell 0,h.blk.cell 1,h.blk.cell 2,h.blk.cell 3,h.blk.cell 4,ta,h.blk.cell 5,h.args.mono fun b hb => .inl hb⟩,A,n,c,h.blk.cell 6,by rw [h.len,hn],hc,fun hpos => ?_⟩
 obtain ⟨g,cap,hv,_⟩:=h.own.form (by omega)
 injection hv with h1 _ _
 subst h1
 have hg:=h.own.lt g rfl
 refine ⟨g,0,rfl,.inr ⟨by have:=h.lo; omega,hg.2⟩,fun i x hx => ?_⟩
 obtain ⟨p,hp,ht⟩:=h.kids i x hx
 refine ⟨p,?_,ht.mono fun b hS => ?_⟩
 ·have:=h.own.cells (g:=g) rfl i p hp
  rw [Nat.zero_add]
  have ha:(⟨g,0,none⟩:Addr).add i=⟨g,i,none⟩:=by unfold Addr.add; split <;> simp_all
  rwa [ha] at this
 ·rcases hS with h1 | ⟨h1,h2,_⟩
  ·exact .inl h1
  ·exact .inr ⟨by have:=h.lo; omega,h2⟩
end
theorem drop_getD (L : List Int) (j : Nat) (h : j < L.length) : L.drop j = L.getD j 0 :: L.drop (j + 1) := by
 rw [List.drop_eq_getElem_cons h]; simp [List.getD_eq_getElem?_getD,h]
def restA (g : Nat → Option (Tree × Nat)) (xs : List Tree) (ks : List Int) (nx : Nat) : Option (List Tree × Nat) := match growA g ks nx with
 | none => none
 | some (ys,n) => some (xs ++ ys,n)
section
variable {g : Nat → Option (Tree × Nat)} {xs : List Tree} {key : Int} {r : List Int} {nx af : Nat} {x : Tree}
theorem restA_nil : restA g xs [] nx = some (xs,nx) := by simp [restA,growA]
theorem restA_ne (h : ¬ key = (nx : Int)) : restA g xs (key :: r) nx = none := by simp [restA,growA,h]
theorem restA_none (h : key = (nx : Int)) (hg : g nx = none) : restA g xs (key :: r) nx = none := by simp [restA,growA,h,hg]
theorem restA_some (h : key = (nx : Int)) (hg : g nx = some (x,af)) : restA g xs (key :: r) nx = restA g (xs ++ [x]) r af := by
 unfold restA
 rw [growA,if_pos h,hg]
 simp only
 cases growA g r af <;> simp
end
theorem own_slice {w : World} {B : Nat} {e : TypeId} {s n : Nat} {v : Value} {xs : List Value} (h : w.ownsRow B e s v n xs) : ∃ A c,v = .slice A n c := by
 rcases h.2 with ⟨h1,h2⟩ | ⟨g,cap,cur,h1,_⟩
 ·subst h2; exact ⟨_,_,h1⟩
 ·exact ⟨_,_,h1⟩
end Go.Proofs.YtgdngfdeeadlnaaGreatDoor
