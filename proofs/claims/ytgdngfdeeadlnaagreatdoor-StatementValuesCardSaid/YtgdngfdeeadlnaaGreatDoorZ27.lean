/- Contract: awake of chapter 18. And more. -/
import Derived.Test.YtgdngfdeeadlnaaGreatDoorZ15
import Derived.Test.YtgdngfdeeadlnaaGreatDoorZ26
import Derived.Test.YtgdngfdeeadlnaaGreatDoorZ22
import Derived.Deep.Slices
import Derived.Test.YtgdngfdeeadlnaaGreatDoorZ04
import Derived.Test.YtgdngfdeeadlnaaGreatDoorZ14
set_option linter.unusedVariables false
set_option linter.unusedSimpArgs false
namespace Go.Proofs.YtgdngfdeeadlnaaGreatDoor
open Go.RowKit Num
theorem aw_len : (stmW awS).length ≤ 16384 := of_decide_eq_true (by kernel_rfl)
theorem aw_byt : bytZ awS = 0 := by
 unfold bytZ
 rw [if_pos (show (rootF awS.cond).isSome=true from aw_root),if_pos (by decide),if_pos aw_len]
theorem aw_ok : StmOk awS := ⟨by decide,by decide,by decide,by decide,(fun k hk => absurd hk (Nat.not_lt_zero k)),by decide,(fun k hk => absurd hk (Nat.not_lt_zero k)),by decide,aw_trm⟩
theorem aw_kit : ∀ t ∈ awS.cond,KitT t := fun t ht => by
 rw [List.mem_singleton.1 ht]
 exact ⟨by decide,by decide,(fun c hc => by cases hc),(fun c hc => by cases hc),by decide⟩
theorem aw_long : 8 < (stmW awS).length := of_decide_eq_true (by kernel_rfl)
theorem aw_size : 8 < (bytS awS).size ∧ (bytS awS).size ≤ 16384 := by
 have e:bytS awS=bsOf (stmW awS):=(bytZ_parts aw_byt).2.2.2
 have h:(bytS awS).size=(stmW awS).length:=by rw [e]; exact List.size_toArray ..
 exact ⟨by rw [h]; exact aw_long,by rw [h]; exact aw_len⟩
set_option maxRecDepth 100000 in
set_option maxHeartbeats 400000 in
theorem l_always (w : World) : Calls Tryz.prog 22 #[] w fun e w' => ∃ g,e = .returned (.agg #[.slice (some ⟨g,0,none⟩) 1 1]) ∧ Blk w' g 75 #[.int .i64 8,.int .i64 0,.int .i64 0,.string ⟨#[]⟩,.string ⟨#[]⟩,.slice none 0 0] ∧ w.heap.size ≤ g ∧ Below w.heap.size w w' := by
 have hcc:=(Blk.new w 26 #[.slice (some ⟨w.heap.size+1,0,none⟩) 1 1]).alloc (.cells #[.int .i64 8,.int .i64 0,.int .i64 0,.string ⟨#[]⟩,.string ⟨#[]⟩,.slice none 0 0] 75)
 have htc:Blk ((w.alloc (.cells #[.slice (some ⟨w.heap.size+1,0,none⟩) 1 1] 26)).alloc (.cells #[.int .i64 8,.int .i64 0,.int .i64 0,.string ⟨#[]⟩,.string ⟨#[]⟩,.slice none 0 0] 75)) (w.heap.size+1) 75 #[.int .i64 8,.int .i64 0,.int .i64 0,.string ⟨#[]⟩,.string ⟨#[]⟩,.slice none 0 0]:=by
  have:=Blk.new (w.alloc (.cells #[.slice (some ⟨w.heap.size+1,0,none⟩) 1 1] 26)) 75 #[.int .i64 8,.int .i64 0,.int .i64 0,.string ⟨#[]⟩,.string ⟨#[]⟩,.slice none 0 0]
  rwa [World.size_alloc] at this
 have hB:Below w.heap.size w ((w.alloc (.cells #[.slice (some ⟨w.heap.size+1,0,none⟩) 1 1] 26)).alloc (.cells #[.int .i64 8,.int .i64 0,.int .i64 0,.string ⟨#[]⟩,.string ⟨#[]⟩,.slice none 0 0] 75)):=((Below.refl _ w).alloc (Nat.le_refl _) _).alloc (by simp) _
 have HK:=Lib.hid (And.intro hcc (And.intro htc hB))
 clear hcc htc hB
 go_enter Tryz.func22,Tryz.ntmps22
 go_wp2_with fail
 refine bodyPost_ret (v:=.agg #[.slice (some ⟨w.heap.size+1,0,none⟩) 1 1]) ?_ rfl ⟨w.heap.size+1,rfl,HK.out.2.1,by omega,HK.out.2.2⟩
 simp [results,Tryz.results22,go_sem,(HK.out.1.cell 0).trans (show _=some (Value.slice (some ⟨w.heap.size+1,0,none⟩) 1 1) from rfl)]
set_option maxRecDepth 100000 in
set_option maxHeartbeats 2000000 in
theorem aw_awake (w : World) (hl : ParOk w) : Calls Tryz.prog 8 #[] w (AwkO w) := by
 have HL:=Lib.hid hl
 clear hl
 go_enter Tryz.func8,Tryz.ntmps8
 go_wp2_with fail
 refine (l_always w).mono ?_
 rintro e w1 ⟨g,rfl,ht,hg,hb⟩
 have hB1:Below w.heap.size w (w1.alloc (.cells #[.string ⟨#[120]⟩,.int .i64 0,.int .i64 5,.slice none 0 0,.slice (some ⟨g,0,none⟩) 1 1,.slice none 0 0] 29)):=hb.alloc hb.size _
 have hT1:=ht.alloc (.cells #[.string ⟨#[120]⟩,.int .i64 0,.int .i64 5,.slice none 0 0,.slice (some ⟨g,0,none⟩) 1 1,.slice none 0 0] 29)
 have hS1:=Blk.new w1 29 #[.string ⟨#[120]⟩,.int .i64 0,.int .i64 5,.slice none 0 0,.slice (some ⟨g,0,none⟩) 1 1,.slice none 0 0]
 have glt:=ht.lt
 obtain ⟨sb,hsb⟩:∃ sb,w1.heap.size=sb:=⟨_,rfl⟩
 have HB:=Lib.hid hb
 clear hb ht
 go_upto_region 2 with fail
 generalize w1.alloc (.cells #[.string ⟨#[120]⟩,.int .i64 0,.int .i64 5,.slice none 0 0,.slice (some ⟨g,0,none⟩) 1 1,.slice none 0 0] 29)=w2 at *
 rw [hsb] at hS1 glt
 try rw [hsb]
 have hat:StmAt w2 (fun q => q=g) (.slice none 0 0) (.slice (some ⟨g,0,none⟩) 1 1) (.slice none 0 0) awS:=⟨⟨none,0,0,rfl,rfl,Nat.le_refl _,fun h => absurd h (Nat.lt_irrefl 0)⟩,aw_at hT1 rfl,⟨none,0,0,rfl,rfl,Nat.le_refl _,fun h => absurd h (Nat.lt_irrefl 0)⟩⟩
 have hby:=s_Bytes awS none (some ⟨g,0,none⟩) none 0 0 1 1 0 0 (fun q => q=g) w2 hat (fun q hq => by subst hq; exact hT1.lt) aw_ok (HL.out.later hB1).lib
 rw [show BytE awS w2=fun e w' => e=.returned (.tuple #[.string (bytS awS),.int .i64 0]) ∧ Below w2.heap.size w2 w' from by unfold BytE; rw [aw_byt]] at hby
 have hrb:=read_back awS aw_ok aw_byt aw_kit
 have hsz:=aw_size
 obtain ⟨bs,hbs⟩:∃ bs,bytS awS=bs:=⟨_,rfl⟩
 rw [hbs] at hby hrb hsz
 have HBY:=Lib.hid hby
 have HRB:=Lib.hid hrb
 have HAT:=Lib.hid hat
 have HT:=Lib.hid hT1
 have HS:=Lib.hid hS1
 have HB2:=Lib.hid hB1
 have d0:=(hS1.cell 0).trans (show _=some (Value.string ⟨#[120]⟩) from rfl)
 have d1:=(hS1.cell 1).trans (show _=some (Value.int .i64 0) from rfl)
 have d2:=(hS1.cell 2).trans (show _=some (Value.int .i64 5) from rfl)
 have d3:=(hS1.cell 3).trans (show _=some (Value.slice none 0 0) from rfl)
 have d4:=(hS1.cell 4).trans (show _=some (Value.slice (some ⟨g,0,none⟩) 1 1) from rfl)
 have d5:=(hS1.cell 5).trans (show _=some (Value.slice none 0 0) from rfl)
 have hz1:=hsz.1
 have hz2:=hsz.2
 clear hby hrb hat hT1 hS1 hB1 hbs hsz hsb HB
 go_wp2_with fail
 refine HBY.out.mono ?_
 rintro e w3 ⟨rfl,hb3⟩
 have HT3:=Lib.hid (HT.out.below' hb3 HT.out.lt)
 have HS3:=Lib.hid (HS.out.below' hb3 HS.out.lt)
 have HB3:=Lib.hid (HB2.out.trans (hb3.mono HB2.out.size))
 have hrd:=s_Read bs w3 (by omega) (HL.out.later HB3.out)
 have HRD:=Lib.hid hrd
 clear hb3 HBY HT HS HB2 hrd d0 d1 d2 d3 d4 d5 HAT
 go_wp2_with fail
 refine HRD.out.mono ?_
 rintro e w4 ⟨s,z,Aa,na,ca,Ac,nc,cc,As,ns,cs,rfl,hx,hb4,hor⟩
 have hsz9:s=awS ∧ z=0:=by
  rcases hor with ⟨_,_,h3,h4⟩ | ⟨h1,_,_⟩
  ·exact ⟨h3.trans HRB.out.1,h4⟩
  ·exact absurd ⟨hz2,HRB.out.2⟩ h1
 obtain ⟨rfl,rfl⟩:=hsz9
 have hT4:=HT3.out.below' hb4 HT3.out.lt
 have hS4:=HS3.out.below' hb4 HS3.out.lt
 have hB4:=HB3.out.trans (hb4.mono HB3.out.size)
 have hT5:=hT4.alloc (.cells #[.string awS.resp,.int .i64 awS.dep,.int .i64 awS.day,.slice Aa na ca,.slice Ac nc cc,.slice As ns cs] 29)
 have hS5:=hS4.alloc (.cells #[.string awS.resp,.int .i64 awS.dep,.int .i64 awS.day,.slice Aa na ca,.slice Ac nc cc,.slice As ns cs] 29)
 have hX5:=Blk.new w4 29 #[.string awS.resp,.int .i64 awS.dep,.int .i64 awS.day,.slice Aa na ca,.slice Ac nc cc,.slice As ns cs]
 have hB5:=hB4.alloc hB4.size (.cells #[.string awS.resp,.int .i64 awS.dep,.int .i64 awS.day,.slice Aa na ca,.slice Ac nc cc,.slice As ns cs] 29)
 have hx5:StmAt (w4.alloc (.cells #[.string awS.resp,.int .i64 awS.dep,.int .i64 awS.day,.slice Aa na ca,.slice Ac nc cc,.slice As ns cs] 29)) (· < (w4.alloc (.cells #[.string awS.resp,.int .i64 awS.dep,.int .i64 awS.day,.slice Aa na ca,.slice Ac nc cc,.slice As ns cs] 29)).heap.size) (.slice Aa na ca) (.slice Ac nc cc) (.slice As ns cs) awS:=(hx.keep fun q hq => Below.heap_alloc w4 _ q hq.2).mono fun q hq => by have:=hq.2; rw [World.size_alloc]; omega
 have HB4:=Lib.hid hB4
 clear hx hb4 hor hT4 hS4 hB4 HRD HT3 HS3 HB3
 go_upto_region 4 with fail
 obtain ⟨xb,hxb⟩:∃ xb,w4.heap.size=xb:=⟨_,rfl⟩
 rw [hxb] at hX5
 try rw [hxb]
 clear hxb HB4
 generalize w4.alloc (.cells #[.string awS.resp,.int .i64 awS.dep,.int .i64 awS.day,.slice Aa na ca,.slice Ac nc cc,.slice As ns cs] 29)=w5 at *
 have hat5:StmAt w5 (· < w5.heap.size) (.slice none 0 0) (.slice (some ⟨g,0,none⟩) 1 1) (.slice none 0 0) awS:=⟨⟨none,0,0,rfl,rfl,Nat.le_refl _,fun h => absurd h (Nat.lt_irrefl 0)⟩,aw_at hT5 hT5.lt,⟨none,0,0,rfl,rfl,Nat.le_refl _,fun h => absurd h (Nat.lt_irrefl 0)⟩⟩
 have hta:∀ x ∈ awS.cond,x.args.length ≤ 1000000:=fun x hx => by rw [List.mem_singleton.1 hx]; decide
 have hsm:Calls Tryz.prog 32 #[.agg #[.string awS.resp,.int .i64 awS.dep,.int .i64 awS.day,.slice Aa na ca,.slice Ac nc cc,.slice As ns cs],.agg #[.string ⟨#[120]⟩,.int .i64 0,.int .i64 5,.slice none 0 0,.slice (some ⟨g,0,none⟩) 1 1,.slice none 0 0]] w5 (SameB (awS=awS) w5):=s_Same awS awS _ _ _ _ _ _ w5 hx5 hat5 aw_ok aw_ok hta hta
 have x0:=(hX5.cell 0).trans (show _=some (Value.string awS.resp) from rfl)
 have x1:=(hX5.cell 1).trans (show _=some (Value.int .i64 awS.dep) from rfl)
 have x2:=(hX5.cell 2).trans (show _=some (Value.int .i64 awS.day) from rfl)
 have x3:=(hX5.cell 3).trans (show _=some (Value.slice Aa na ca) from rfl)
 have x4:=(hX5.cell 4).trans (show _=some (Value.slice Ac nc cc) from rfl)
 have x5:=(hX5.cell 5).trans (show _=some (Value.slice As ns cs) from rfl)
 have d0:=(hS5.cell 0).trans (show _=some (Value.string ⟨#[120]⟩) from rfl)
 have d1:=(hS5.cell 1).trans (show _=some (Value.int .i64 0) from rfl)
 have d2:=(hS5.cell 2).trans (show _=some (Value.int .i64 5) from rfl)
 have d3:=(hS5.cell 3).trans (show _=some (Value.slice none 0 0) from rfl)
 have d4:=(hS5.cell 4).trans (show _=some (Value.slice (some ⟨g,0,none⟩) 1 1) from rfl)
 have d5:=(hS5.cell 5).trans (show _=some (Value.slice none 0 0) from rfl)
 have hlen:(8:Int) < (bs.size:Int):=by omega
 have HSM:=Lib.hid hsm
 have HT5:=Lib.hid hT5
 have HS5:=Lib.hid hS5
 have HB5:=Lib.hid hB5
 clear hsm hat5 hta hT5 hS5 hX5 hB5 hx5
 go_wp2_with fail
 refine HSM.out.mono ?_
 rintro e w6 ⟨b,rfl,hb,hb6⟩
 have hbt:b=true:=hb.2 (by trivial)
 subst hbt
 have hS6:=HS5.out.below' hb6 HS5.out.lt
 have HT6:=Lib.hid (HT5.out.below' hb6 HT5.out.lt)
 have HB6:=Lib.hid (HB5.out.trans (hb6.mono HB5.out.size))
 have f0:=(hS6.cell 0).trans (show _=some (Value.string ⟨#[120]⟩) from rfl)
 have f1:=(hS6.cell 1).trans (show _=some (Value.int .i64 0) from rfl)
 have f2:=(hS6.cell 2).trans (show _=some (Value.int .i64 5) from rfl)
 have f3:=(hS6.cell 3).trans (show _=some (Value.slice none 0 0) from rfl)
 have f4:=(hS6.cell 4).trans (show _=some (Value.slice (some ⟨g,0,none⟩) 1 1) from rfl)
 have f5:=(hS6.cell 5).trans (show _=some (Value.slice none 0 0) from rfl)
 have hck:=s_Check1 g w6 HT6.out
 have HCK:=Lib.hid hck
 clear hb hb6 hS6 hck HSM HT5 HS5 HB5 x0 x1 x2 x3 x4 x5 d0 d1 d2 d3 d4 d5
 go_wp2_with fail
 refine HCK.out.mono ?_
 rintro e w7 ⟨rfl,hb7⟩
 have HB7:=Lib.hid (HB6.out.trans (hb7.mono HB6.out.size))
 clear hb7 HCK
 go_wp2_with fail
 go_ret
 exact ⟨rfl,HB7.out⟩
structure OwnTr (w : World) (B : Nat) (S : Nat → Prop) (v : Value) (L : List Trm) (us : Nat → Value) : Prop where
  row : w.ownsRow B 75 6 v L.length (tmsC L us)
  args : ∀ k, k < L.length → IntsAt w S (us k) (trmAt L k).args
theorem OwnTr.terms {w : World} {B : Nat} {S : Nat → Prop} {v : Value} {L : List Trm} {us : Nat → Value} (h : OwnTr w B S v L us) : TermsAt w (fun b => S b ∨ (B ≤ b ∧ b < w.heap.size)) v L := by
 rcases Nat.eq_zero_or_pos L.length with h0 | h0
 ·rcases h.row.2 with ⟨rfl,_⟩ | ⟨g',cap,cur,rfl,_,_,h2,_⟩
  ·exact ⟨none,0,0,rfl,h0.symm,by omega,fun h1 => absurd h1 (by omega)⟩
  ·exact ⟨_,L.length,cap,rfl,rfl,h2,fun h1 => absurd h1 (by omega)⟩
 ·obtain ⟨g,c,rfl,hg,hlt⟩:=h.row.form h0
  refine ⟨some ⟨g,0,none⟩,L.length,c,rfl,rfl,?_,fun _ => ⟨g,0,rfl,.inr ⟨hg,hlt⟩,fun k hk => ?_⟩⟩
  ·rcases h.row.2 with ⟨h1,_⟩ | ⟨g',cap,cur,h1,_,_,h2,_⟩
   ·cases h1
   ·injection h1 with _ _ h1; omega
  ·have hc:∀ i u,i < 6 → (tmCell (trmAt L k) (us k)).getD i undef=u → w.cell? ⟨g,0+k*6+i,none⟩=some u:=by
    intro i u hi hu
    rw [Nat.zero_add]
    exact own_cell h.row (k*6+i) u (by rw [tmsC_at L us k i hk hi,hu])
   exact ⟨hc 0 _ (by decide) rfl,hc 1 _ (by decide) rfl,hc 2 _ (by decide) rfl,hc 3 _ (by decide) rfl,hc 4 _ (by decide) rfl,us k,hc 5 _ (by decide) rfl,(h.args k hk).mono fun b hb => .inl hb⟩
theorem OwnTr.mono {w : World} {B : Nat} {S T : Nat → Prop} {v : Value} {L : List Trm} {us : Nat → Value} (h : OwnTr w B S v L us) (hS : ∀ b,S b → T b) : OwnTr w B T v L us :=
 ⟨h.row,fun k hk => (h.args k hk).mono hS⟩
def fdCell (f : Fld) (u : Value) : List Value := [.string f.name,.int .i64 f.kind,.bool f.need,.int .i64 f.least,.int .i64 f.most,u]
def FldSm (f : Fld) : Prop := f.name.size ≤ 100 ∧ f.opts.length ≤ 20 ∧ -1000000000 ≤ f.kind ∧ f.kind ≤ 1000000000 ∧ -1000000000 ≤ f.least ∧ f.least ≤ 1000000000 ∧ -1000000000 ≤ f.most ∧ f.most ≤ 1000000000 ∧ ∀ s ∈ f.opts,s.size ≤ 100
theorem FldSm.ok {f : Fld} (h : FldSm f) : FldOk f := by
 obtain ⟨a,b,c1,c2,c3,c4,c5,c6,d⟩:=h
 exact ⟨by omega,by omega,by omega,by omega,by omega,by omega,by omega,by omega,fun s hs => by have:=d s hs; omega⟩
structure FoB (W : World) (B g : Nat) (L : List Fld) (us : Nat → Value) : Prop where
  cells : ∀ k, k < L.length → ∀ j, j < 6 → W.cell? ⟨g, k * 6 + j, none⟩ = some ((fdCell (fldAt L k) (us k)).getD j undef)
  opts : ∀ k, k < L.length → W.ownsRow B 9 1 (us k) (fldAt L k).opts.length ((fldAt L k).opts.map Value.string)
  apart : ∀ j k, j < L.length → k < L.length → j ≠ k → (us j).ownBlock = none ∨ (us j).ownBlock ≠ (us k).ownBlock
theorem fldAt_set (L : List Fld) (k j : Nat) (f : Fld) (h : k < L.length) : fldAt (L.set k f) j = if j = k then f else fldAt L j := by
 unfold fldAt
 rw [List.getD_eq_getElem?_getD,List.getElem?_set]
 by_cases e:k=j
 ·subst e; simp [h]
 ·rw [if_neg e,if_neg (fun e' => e e'.symm),List.getD_eq_getElem?_getD]
section
variable {w W W' : World} {B g : Nat} {L : List Fld} {us : Nat → Value}
theorem FoB.flds (h : FoB W B g L us) {c : Nat} (hc : L.length ≤ c) : FldsAt W (fun b => (B ≤ b ∧ b < W.heap.size) ∨ b = g) (.slice (some ⟨g,0,none⟩) L.length c) L := by
 refine ⟨some ⟨g,0,none⟩,L.length,c,rfl,rfl,hc,fun _ => ⟨g,0,rfl,.inr rfl,fun k hk => ?_⟩⟩
 have hcc:=h.cells k hk
 rw [Nat.zero_add]
 exact ⟨hcc 0 (by decide),hcc 1 (by decide),hcc 2 (by decide),hcc 3 (by decide),hcc 4 (by decide),us k,hcc 5 (by decide),(TxsAt.of_own (h.opts k hk)).mono fun b hb => .inl hb⟩
theorem FoB.keep (h : FoB W B g L us) (hg : W'.heap[g]? = W.heap[g]?) {row : Option Nat} (hr : W.grownBy W' row) (hne : ∀ k,k < L.length → (us k).ownBlock = none ∨ (us k).ownBlock ≠ row) : FoB W' B g L us :=
 ⟨fun k hk j hj => (World.cell?_of_block hg).trans (h.cells k hk j hj),fun k hk => (h.opts k hk).kept hr (hne k hk),h.apart⟩
theorem fob_put (hcl : ∀ k,k < L.length → ∀ j,j < 6 → W.cell? ⟨g,k * 6 + j,none⟩ = some ((fdCell (fldAt L k) (us k)).getD j undef)) {k i : Nat} (hop : ∀ j,j < L.length → j ≠ k → W.ownsRow B 9 1 (us j) (fldAt L j).opts.length ((fldAt L j).opts.map Value.string))
  (hpt:∀ j q,j < L.length → q < L.length → j ≠ q → (us j).ownBlock=none ∨ (us j).ownBlock ≠ (us q).ownBlock) (hk:k < L.length) (hi:i < 6) (f':Fld) (u' v:Value) (e:(fdCell (fldAt L k) (us k)).set i v=fdCell f' u')
  (hu:W.ownsRow B 9 1 u' f'.opts.length (f'.opts.map Value.string)) (hap:∀ j,j < L.length → j ≠ k → (us j).ownBlock=none ∨ (us j).ownBlock ≠ u'.ownBlock) (hng:∀ j,j < L.length → (us j).ownBlock ≠ some g) (hug:u'.ownBlock ≠ some g) :
  FoB (W.setCell ⟨g,k*6+i,none⟩ v) B g (L.set k f') (fun j => if j=k then u' else us j):=by
 have hg:W.grownBy (W.setCell ⟨g,k*6+i,none⟩ v) (some g):=grown_setCell W ⟨g,k*6+i,none⟩ v
 have hlen:(L.set k f').length=L.length:=List.length_set ..
 refine ⟨fun q hq j hj => ?_,fun q hq => ?_,fun j q hj hq hne => ?_⟩
 ·rw [hlen] at hq
  rw [fldAt_set L k q f' hk]
  by_cases eq:q=k
  ·subst eq
   simp only [if_true]
   rw [← e]
   by_cases ei:j=i
   ·subst ei
    rw [World.cell?_setCell_same _ _ _ (hcl q hk j hj)]
    rw [List.getD_eq_getElem?_getD,List.getElem?_set_self (by simpa [fdCell] using hj)]
    rfl
   ·rw [World.cell?_setCell_other _ _ _ _ (by intro e'; injection e' with e1 e2; omega),hcl q hk j hj]
    rw [List.getD_eq_getElem?_getD,List.getD_eq_getElem?_getD,List.getElem?_set_ne (fun e' => ei e'.symm)]
  ·simp only [if_neg eq]
   rw [World.cell?_setCell_other _ _ _ _ (by intro e'; injection e' with e1 e2; omega)]
   exact hcl q hq j hj
 ·rw [hlen] at hq
  rw [fldAt_set L k q f' hk]
  by_cases eq:q=k
  ·subst eq
   simp only [if_true]
   exact hu.kept hg (.inr hug)
  ·simp only [if_neg eq]
   exact (hop q hq eq).kept hg (.inr (hng q hq))
 ·rw [hlen] at hj hq
  by_cases e1:j=k
  ·have e2:q ≠ k:=fun e2 => hne (e1.trans e2.symm)
   simp only [if_pos e1,if_neg e2]
   rcases hap q hq e2 with e3 | e3
   ·rcases hb:u'.ownBlock with _ | z
    ·exact .inl rfl
    ·exact .inr (by rw [e3]; simp)
   ·exact .inr fun e4 => e3 e4.symm
  ·by_cases e2:q=k
   ·simp only [if_neg e1,if_pos e2]; exact hap j hj e1
   ·simp only [if_neg e1,if_neg e2]; exact hpt j q hj hq hne
theorem FoB.put (h : FoB W B g L us) {k i : Nat} (hk : k < L.length) (hi : i < 6) (f' : Fld) (u' v : Value) (e : (fdCell (fldAt L k) (us k)).set i v = fdCell f' u')
  (hu:W.ownsRow B 9 1 u' f'.opts.length (f'.opts.map Value.string)) (hap:∀ j,j < L.length → j ≠ k → (us j).ownBlock=none ∨ (us j).ownBlock ≠ u'.ownBlock) (hng:∀ j,j < L.length → (us j).ownBlock ≠ some g) (hug:u'.ownBlock ≠ some g) :
  FoB (W.setCell ⟨g,k*6+i,none⟩ v) B g (L.set k f') (fun j => if j=k then u' else us j) :=
 fob_put h.cells (fun j hj _ => h.opts j hj) h.apart hk hi f' u' v e hu hap hng hug
end
def FormE (w : World) (db : Nat) (e : Ending) (w' : World) : Prop := ∃ t A n c L,e = .returned (.agg #[.string t,.slice A n c]) ∧ FldsAt w' (fun b => w.heap.size ≤ b ∧ b < w'.heap.size) (.slice A n c) L ∧ t.size ≤ 1000 ∧ L.length ≤ 4 ∧ (∀ k,k < L.length → FldSm (fldAt L k)) ∧ Dc w' db ∧ w.grownBy w' (some db)
structure FoS (w W : World) (db tb g m : Nat) (t : ByteArray) (L : List Fld) (us : Nat → Value) : Prop where
  len : m = L.length
  one : 1 ≤ m ∧ m ≤ 4
  dc : Dc W db
  fb : FoB W (w.heap.size + 1) g L us
  ty : ∃ cs, Blk W g 58 cs
  form : Blk W tb 37 #[.string t, .slice (some ⟨g, 0, none⟩) m 4]
  res : Blk W w.heap.size 37 #[.string ⟨#[]⟩, .slice none 0 0]
  gw : w.grownBy W (some db)
  sm : t.size ≤ 1000 ∧ ∀ k, k < L.length → FldSm (fldAt L k)
  dlt : db < w.heap.size
  glt : w.heap.size < g
  tlt : g < tb
section
variable {w W W' : World} {db tb g m : Nat} {t : ByteArray} {L : List Fld} {us : Nat → Value}
theorem FoS.glw (h : FoS w W db tb g m t L us) : g < W.heap.size ∧ tb < W.heap.size ∧ w.heap.size < W.heap.size := ⟨Nat.lt_trans h.tlt h.form.lt,h.form.lt,h.res.lt⟩
theorem FoS.keep (h : FoS w W db tb g m t L us) (hd : Dc W' db) {row : Option Nat} (hg : W.grownBy W' row) (hr : ∀ q,row = some q → q = db) : FoS w W' db tb g m t L us := by
 have h1:=h.dlt
 have h2:=h.glt
 have h3:=h.tlt
 obtain ⟨l1,l2,l3⟩:=h.glw
 have kb:∀ q,q < W.heap.size → q ≠ db → W'.heap[q]?=W.heap[q]?:=fun q hq hne => hg.block q hq (fun e => hne (hr q e.symm))
 obtain ⟨cs,hcs⟩:=h.ty
 refine ⟨h.len,h.one,hd,h.fb.keep (kb g l1 (by omega)) hg (fun k hk => ?_),⟨cs,(kb g l1 (by omega)).trans hcs⟩,(kb tb l2 (by omega)).trans h.form,(kb _ l3 (by omega)).trans h.res,?_,h.sm,h1,h2,h3⟩
 ·rcases hb:(us k).ownBlock with _ | q
  ·exact .inl rfl
  ·refine .inr fun e => ?_
   have e2:=hr q e.symm
   have:=((h.fb.opts k hk).lt q hb).1
   omega
 ·exact ⟨hg.os.trans h.gw.os,hg.tape.trans h.gw.tape,hg.output.trans h.gw.output,Nat.le_trans h.gw.size hg.size,fun q hq hne => (kb q (by have:=h.gw.size; omega) (fun e => hne (by rw [e]))).trans (h.gw.block q hq hne)⟩
theorem FoS.dice (h : FoS w W db tb g m t L us) (hd : Dc W' db) (hg : W.grownBy W' (some db)) : FoS w W' db tb g m t L us := h.keep hd hg (fun q hq => (Option.some.inj hq).symm)
theorem FoS.alloc (h : FoS w W db tb g m t L us) (o : Obj) : FoS w (W.alloc o) db tb g m t L us := h.keep (h.dc.alloc o) (World.grownBy_alloc W o none) (fun q hq => by cases hq)
theorem FoS.ct (h : FoS w W db tb g m t L us) (k i : Nat) (hk : k < m) (hi : i < 6) : W.cell? ⟨g,k * 6 + i,none⟩ = some ((fdCell (fldAt L k) (us k)).getD i undef) := h.fb.cells k (by have := h.len; omega) i hi
theorem FoS.ft (h : FoS w W db tb g m t L us) (i : Nat) : W.frozen? ⟨g,i,none⟩ = false := by
 obtain ⟨cs,hcs⟩:=h.ty
 exact Blk.frozen hcs i
theorem FoS.t0 (h : FoS w W db tb g m t L us) : W.cell? ⟨tb,0,none⟩ = some (.string t) := (h.form.cell 0).trans rfl
theorem FoS.t1 (h : FoS w W db tb g m t L us) : W.cell? ⟨tb,1,none⟩ = some (.slice (some ⟨g,0,none⟩) m 4) := (h.form.cell 1).trans rfl
theorem FoS.r0 (h : FoS w W db tb g m t L us) : W.cell? ⟨w.heap.size,0,none⟩ = some (.string ⟨#[]⟩) := (h.res.cell 0).trans rfl
theorem FoS.r1 (h : FoS w W db tb g m t L us) : W.cell? ⟨w.heap.size,1,none⟩ = some (.slice none 0 0) := (h.res.cell 1).trans rfl
theorem FoS.rf (h : FoS w W db tb g m t L us) (i : Nat) : W.frozen? ⟨w.heap.size,i,none⟩ = false := h.res.frozen i
theorem FoS.une (h : FoS w W db tb g m t L us) {k : Nat} (hk : k < L.length) : (us k).ownBlock ≠ some g := fun e => by
 obtain ⟨cs,hcs⟩:=h.ty
 exact own_not (h.fb.opts k hk) hcs (by decide) g e rfl
theorem FoS.fin (h : FoS w W db tb g m t L us) {W2 : World} {L' : List Fld} {us' : Nat → Value} (hfb : FoB W2 (w.heap.size + 1) g L' us') (hl : L'.length = m) (hg : Chg W W2 (fun q => w.heap.size < q)) (hsm : ∀ k,k < L'.length → FldSm (fldAt L' k)) (a b : Value) :
  FormE w db (.returned (.agg #[.string t,.slice (some ⟨g,0,none⟩) m 4])) ((W2.setCell ⟨w.heap.size,0,none⟩ a).setCell ⟨w.heap.size,1,none⟩ b) ∧
   ((W2.setCell ⟨w.heap.size,0,none⟩ a).setCell ⟨w.heap.size,1,none⟩ b).cell? ⟨w.heap.size,0,none⟩=some a ∧ ((W2.setCell ⟨w.heap.size,0,none⟩ a).setCell ⟨w.heap.size,1,none⟩ b).cell? ⟨w.heap.size,1,none⟩=some b:=by
 have h1:=h.dlt
 have h2:=h.glt
 have h3:=h.tlt
 obtain ⟨l1,l2,l3⟩:=h.glw
 have hsz:=hg.size
 have hr2:Blk W2 w.heap.size 37 #[.string ⟨#[]⟩,.slice none 0 0]:=(hg.block _ l3 (fun e => Nat.lt_irrefl _ e)).trans h.res
 have hr3:=hr2.set_ 0 a
 have hr4:=hr3.set_ 1 b
 have hc:Chg W2 ((W2.setCell ⟨w.heap.size,0,none⟩ a).setCell ⟨w.heap.size,1,none⟩ b) (fun q => q=w.heap.size):=Chg.setCell (Chg.setCell (Chg.refl W2 (fun q => q=w.heap.size)) ⟨w.heap.size,0,none⟩ (fun _ => rfl) a) ⟨w.heap.size,1,none⟩ (fun _ => rfl) b
 have hcs:=hc.size
 have hF:=hfb.flds (c:=4) (by have:=h.one; omega)
 rw [hl] at hF
 refine ⟨⟨t,_,m,4,L',rfl,(hF.keep fun q hq => hc.block q (by omega) (by omega)).mono fun q hq => ⟨by omega,by omega⟩,h.sm.1,by have:=h.one; omega,hsm,h.dc.keep fun q hq => (hc.block q (by have:=h.dc.lt; omega) (by omega)).trans (hg.block q (by have:=h.dc.lt; omega) (by omega)),?_⟩,(hr4.cell 0).trans rfl,(hr4.cell 1).trans rfl⟩
 exact ⟨hc.os.trans (hg.os.trans h.gw.os),hc.tape.trans (hg.tape.trans h.gw.tape),hc.output.trans (hg.output.trans h.gw.output),by have:=h.gw.size; omega,fun q hq hne => (hc.block q (by omega) (by omega)).trans ((hg.block q (by omega) (by omega)).trans (h.gw.block q hq hne))⟩
theorem sm_set {k : Nat} {f' : Fld} (h : ∀ j,j < L.length → FldSm (fldAt L j)) (hk : k < L.length) (hf : FldSm f') : ∀ j,j < (L.set k f').length → FldSm (fldAt (L.set k f') j) := fun j hj => by
 rw [List.length_set] at hj
 rw [fldAt_set L k j f' hk]
 by_cases e:j=k
 ·rw [if_pos e]; exact hf
 ·rw [if_neg e]; exact h j hj
theorem FoS.put1 (h : FoS w W db tb g m t L us) {k i : Nat} (hk : k < m) (hi : i < 6) (f' : Fld) (v : Value) (e : (fdCell (fldAt L k) (us k)).set i v = fdCell f' (us k)) (ho : f'.opts = (fldAt L k).opts) :
  FoB (W.setCell ⟨g,k*6+i,none⟩ v) (w.heap.size+1) g (L.set k f') (fun j => if j=k then us k else us j) ∧ Chg W (W.setCell ⟨g,k*6+i,none⟩ v) (fun q => w.heap.size < q):=by
 have hkl:k < L.length:=by have:=h.len; omega
 refine ⟨h.fb.put hkl hi f' (us k) v e (by rw [ho]; exact h.fb.opts k hkl) (fun j hj hne => h.fb.apart j k hj hkl hne) (fun j hj => h.une hj) (h.une hkl),Chg.setCell (Chg.refl W _) ⟨g,k*6+i,none⟩ (fun _ => h.glt) v⟩
theorem FoS.put2 (h : FoS w W db tb g m t L us) {k : Nat} (hk : k < m) (a b : Int) :
  FoB ((W.setCell ⟨g,k*6+3,none⟩ (.int .i64 a)).setCell ⟨g,k*6+4,none⟩ (.int .i64 b)) (w.heap.size+1) g ((L.set k { fldAt L k with least:=a }).set k { fldAt L k with least:=a,most:=b }) (fun j => if j=k then us k else if j=k then us k else us j) ∧
   Chg W ((W.setCell ⟨g,k*6+3,none⟩ (.int .i64 a)).setCell ⟨g,k*6+4,none⟩ (.int .i64 b)) (fun q => w.heap.size < q):=by
 have hkl:k < L.length:=by have:=h.len; omega
 obtain ⟨f1,c1⟩:=h.put1 (i:=3) hk (by decide) { fldAt L k with least:=a } (.int .i64 a) rfl rfl
 have hl:(L.set k { fldAt L k with least:=a }).length=L.length:=List.length_set ..
 have ef:fldAt (L.set k { fldAt L k with least:=a }) k = { fldAt L k with least:=a }:=by rw [fldAt_set L k k _ hkl,if_pos rfl]
 have hun:∀ j,j < (L.set k { fldAt L k with least:=a }).length → (if j=k then us k else us j).ownBlock ≠ some g:=fun j hj => by
  split
  ·exact h.une hkl
  ·exact h.une (by omega)
 have hu:=f1.opts k (by omega)
 rw [ef,if_pos rfl] at hu
 refine ⟨f1.put (k:=k) (i:=4) (by omega) (by decide) { fldAt L k with least:=a,most:=b } (us k) (.int .i64 b) (by rw [ef,if_pos rfl]; rfl) hu (fun j hj hne => ?_) hun (h.une hkl),c1.trans (Chg.setCell (Chg.refl _ (fun q => w.heap.size < q)) ⟨g,k*6+4,none⟩ (fun _ => h.glt) _) (fun _ _ e => e)⟩
 rw [if_neg hne]
 exact h.fb.apart j k (by omega) hkl hne
theorem FoS.more (h : FoS w W db tb g m t L us) {k : Nat} (hk : k < m) {o : Obj} {v' : Value} {x : ByteArray} (hown : W'.ownsRow (w.heap.size + 1) 9 1 v' ((fldAt L k).opts.length + 1) ((fldAt L k).opts.map Value.string ++ [.string x])) (hgr : (W.alloc o).grownBy W' (us k).ownBlock)
  (hwh:v'.ownBlock=(us k).ownBlock ∨ ∀ q,v'.ownBlock=some q → W.heap.size ≤ q) :
  FoB (W'.setCell ⟨g,k*6+5,none⟩ v') (w.heap.size+1) g (L.set k { fldAt L k with opts:=(fldAt L k).opts ++ [x] }) (fun j => if j=k then v' else us j) ∧ Chg W (W'.setCell ⟨g,k*6+5,none⟩ v') (fun q => w.heap.size < q) ∧
   W'.cell? ⟨g,k*6+5,none⟩=some (us k) ∧ W'.frozen? ⟨g,k*6+5,none⟩=false ∧ W'.cell? ⟨tb,0,none⟩=some (.string t) ∧ W'.cell? ⟨tb,1,none⟩=some (.slice (some ⟨g,0,none⟩) m 4) ∧ W'.cell? ⟨w.heap.size,0,none⟩=some (.string ⟨#[]⟩) ∧ W'.cell? ⟨w.heap.size,1,none⟩=some (.slice none 0 0) ∧ W'.frozen? ⟨w.heap.size,0,none⟩=false ∧ W'.frozen? ⟨w.heap.size,1,none⟩=false:=by
 have hkl:k < L.length:=by have:=h.len; omega
 obtain ⟨l1,l2,l3⟩:=h.glw
 have hgB:W'.heap[g]?=W.heap[g]?:=(hgr.block g (by simp; omega) (fun e => h.une hkl e.symm)).trans (Below.heap_alloc W o g l1)
 have hcl:∀ q,q < L.length → ∀ j,j < 6 → W'.cell? ⟨g,q*6+j,none⟩=some ((fdCell (fldAt L q) (us q)).getD j undef):=fun q hq j hj => (World.cell?_of_block hgB).trans (h.fb.cells q hq j hj)
 obtain ⟨cs,hcs⟩:=h.ty
 have hcs':Blk W' g 58 cs:=hgB.trans hcs
 have hvg:v'.ownBlock ≠ some g:=fun e => own_not hown hcs' (by decide) g e rfl
 have hcg:Chg W W' (fun q => w.heap.size < q):=((Chg.refl W (fun q => w.heap.size < q)).alloc o).trans (Chg.of_grown (S:=fun q => w.heap.size < q) hgr (fun q hq _ => by have:=((h.fb.opts k hkl).lt q hq).1; omega)) (fun _ _ e => e)
 have htB:Blk W' tb 37 #[.string t,.slice (some ⟨g,0,none⟩) m 4]:=(hgr.block tb (by simp; omega) (fun e => own_not (h.fb.opts k hkl) h.form (by decide) tb e.symm rfl)).trans ((Below.heap_alloc W o tb l2).trans h.form)
 have hrB:Blk W' w.heap.size 37 #[.string ⟨#[]⟩,.slice none 0 0]:=(hgr.block _ (by simp; omega) (fun e => by have:=((h.fb.opts k hkl).lt _ e.symm).1; omega)).trans ((Below.heap_alloc W o _ l3).trans h.res)
 refine ⟨fob_put hcl (fun j hj hne => ((h.fb.opts j hj).alloc o).kept hgr ?_) h.fb.apart hkl (by decide) _ v' v' rfl (by simpa using hown) (fun j hj hne => ?_) (fun j hj => h.une hj) hvg,Chg.setCell hcg ⟨g,k*6+5,none⟩ (fun _ => h.glt) v',hcl k hkl 5 (by decide),Blk.frozen hcs' _,(htB.cell 0).trans rfl,(htB.cell 1).trans rfl,(hrB.cell 0).trans rfl,(hrB.cell 1).trans rfl,hrB.frozen 0,hrB.frozen 1⟩
 ·exact h.fb.apart j k hj hkl hne
 ·rcases hwh with e | e
  ·rw [e]; exact h.fb.apart j k hj hkl hne
  ·rcases hb:(us j).ownBlock with _ | z
   ·exact .inl rfl
   ·refine .inr fun e2 => ?_
    have h1:=e z e2.symm
    have h2:=((h.fb.opts j hj).lt z hb).2
    omega
theorem blk_drew {q : Nat} {ty : TypeId} {cs : Array Value} (h : Blk W q ty cs) : Blk W.drew q ty cs := h
theorem cell_drew' {a : Addr} {v : Value} (h : W.cell? a = some v) : W.drew.cell? a = some v := h
theorem FormE.drew {e : Ending} (h : FormE w db e W) : FormE w db e W.drew := by
 obtain ⟨t,A,n,c,L,h1,h2,h3,h4,h5,h6,h7⟩:=h
 exact ⟨t,A,n,c,L,h1,h2.keep (w':=W.drew) (fun _ _ => rfl),h3,h4,h5,h6.drew,⟨h7.os,h7.tape,h7.output,h7.size,h7.block⟩⟩
theorem FoS.drew (h : FoS w W db tb g m t L us) : FoS w W.drew db tb g m t L us := h.keep h.dc.drew (row := none) (only_drewN (World.grownBy.refl W _) 1) (fun q hq => by cases hq)
end
end Go.Proofs.YtgdngfdeeadlnaaGreatDoor
