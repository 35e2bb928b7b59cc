/- Contracts: the kit's Form. And more. -/
import Derived.Test.YtgdngfdeeadlnaaGreatDoorZ27
import Derived.Test.YtgdngfdeeadlnaaGreatDoorZ15
import Derived.Test.YtgdngfdeeadlnaaGreatDoorZ24
import Derived.BigRegion
import Derived.Deep.RegionLaw
import Derived.Test.YtgdngfdeeadlnaaGreatDoorZ04
import Derived.Deep.CutRange
import Derived.Deep.CutBlock
set_option linter.unusedVariables false
set_option linter.unusedSimpArgs false
namespace Go.Proofs.YtgdngfdeeadlnaaGreatDoor
open Go.RowKit Num
def kfT : Nat → ByteArray := fun i => ([⟨#[114,101,112,111,114,116]⟩,⟨#[]⟩,⟨#[102,111,114,109,32,50]⟩] : List ByteArray).getD i ⟨#[]⟩
theorem kfT_small (i : Nat) : (kfT i).size ≤ 100 := by
 unfold kfT
 match i with
 | 0 | 1 | 2 => decide
 | k+3 => simp [List.getD]; exact Nat.zero_le _
def kf9 : Nat → ByteArray := fun i => ([⟨#[]⟩,⟨#[97,108,108]⟩,⟨#[87,104,97,116]⟩,⟨#[97,45,98]⟩,⟨#[111,102]⟩,⟨#[57,97]⟩,⟨#[97,57,95]⟩,⟨#[107,105,110,100]⟩,⟨#[97,98,99,100,101,102,103,104,105,106,107,108,109,110,111,112,113,114,115,116,117,118,119,120,121,122,97,98,99,100,101,102,103]⟩] : List ByteArray).getD i ⟨#[]⟩
theorem kf9_small (i : Nat) : (kf9 i).size ≤ 100 := by
 unfold kf9
 match i with
 | 0 | 1 | 2 | 3 | 4 | 5 | 6 | 7 | 8 => decide
 | k+9 => simp [List.getD]; exact Nat.zero_le _
def kf3 : Nat → ByteArray := fun i => ([⟨#[119,111,114,100,115]⟩,⟨#[]⟩,⟨#[110,101,119]⟩] : List ByteArray).getD i ⟨#[]⟩
theorem kf3_small (i : Nat) : (kf3 i).size ≤ 100 := by
 unfold kf3
 match i with
 | 0 | 1 | 2 => decide
 | k+3 => simp [List.getD]; exact Nat.zero_le _
def kf4 (b2 b3 : Bool) : List Fld := [⟨⟨#[119,104,97,116]⟩,1,b2,0,20,[]⟩,⟨⟨#[107,105,110,100]⟩,4,b3,0,0,[⟨#[119,111,114,100,115]⟩,⟨#[97,99,116,115]⟩]⟩,⟨⟨#[116,105,109,101,115]⟩,2,false,-1,9,[]⟩,⟨⟨#[117,110,116,105,108]⟩,3,false,0,3652058,[]⟩]
def kfC (b2 b3 : Bool) (u : Value) : Array Value := #[.string ⟨#[119,104,97,116]⟩,.int .i64 1,.bool b2,.int .i64 0,.int .i64 20,.slice none 0 0,.string ⟨#[107,105,110,100]⟩,.int .i64 4,.bool b3,.int .i64 0,.int .i64 0,u,.string ⟨#[116,105,109,101,115]⟩,.int .i64 2,.bool false,.int .i64 (-1),.int .i64 9,.slice none 0 0,.string ⟨#[117,110,116,105,108]⟩,.int .i64 3,.bool false,.int .i64 0,.int .i64 3652058,.slice none 0 0]
def kfU (u : Value) : Nat → Value := fun k => if k = 1 then u else .slice none 0 0
theorem fldAt_take (L : List Fld) (m k : Nat) (h : k < m) : fldAt (L.take m) k = fldAt L k := by
 unfold fldAt
 rw [List.getD_eq_getElem?_getD,List.getElem?_take,if_pos h,List.getD_eq_getElem?_getD]
theorem kf_fob {W : World} {B g ob m : Nat} {b2 b3 : Bool} (hg : Blk W g 58 (kfC b2 b3 (.slice (some ⟨ob,0,none⟩) 2 2))) (ho : Blk W ob 9 #[.string ⟨#[119,111,114,100,115]⟩,.string ⟨#[97,99,116,115]⟩]) (hB : B ≤ ob) (hm : m ≤ 4) :
  FoB W B g ((kf4 b2 b3).take m) (kfU (.slice (some ⟨ob,0,none⟩) 2 2)):=by
 have hl:((kf4 b2 b3).take m).length=m:=by rw [List.length_take]; show min m 4=m; omega
 refine ⟨fun k hk j hj => ?_,fun k hk => ?_,fun j k hj hk hne => ?_⟩
 ·rw [hl] at hk
  rw [fldAt_take _ _ _ hk]
  have hk4:k=0 ∨ k=1 ∨ k=2 ∨ k=3:=by omega
  have hj6:j=0 ∨ j=1 ∨ j=2 ∨ j=3 ∨ j=4 ∨ j=5:=by omega
  rcases hk4 with rfl | rfl | rfl | rfl <;> rcases hj6 with rfl | rfl | rfl | rfl | rfl | rfl
  ·exact (hg.cell 0).trans rfl
  ·exact (hg.cell 1).trans rfl
  ·exact (hg.cell 2).trans rfl
  ·exact (hg.cell 3).trans rfl
  ·exact (hg.cell 4).trans rfl
  ·exact (hg.cell 5).trans rfl
  ·exact (hg.cell 6).trans rfl
  ·exact (hg.cell 7).trans rfl
  ·exact (hg.cell 8).trans rfl
  ·exact (hg.cell 9).trans rfl
  ·exact (hg.cell 10).trans rfl
  ·exact (hg.cell 11).trans rfl
  ·exact (hg.cell 12).trans rfl
  ·exact (hg.cell 13).trans rfl
  ·exact (hg.cell 14).trans rfl
  ·exact (hg.cell 15).trans rfl
  ·exact (hg.cell 16).trans rfl
  ·exact (hg.cell 17).trans rfl
  ·exact (hg.cell 18).trans rfl
  ·exact (hg.cell 19).trans rfl
  ·exact (hg.cell 20).trans rfl
  ·exact (hg.cell 21).trans rfl
  ·exact (hg.cell 22).trans rfl
  ·exact (hg.cell 23).trans rfl
 ·rw [hl] at hk
  rw [fldAt_take _ _ _ hk]
  have hk4:k=0 ∨ k=1 ∨ k=2 ∨ k=3:=by omega
  rcases hk4 with rfl | rfl | rfl | rfl
  ·exact World.ownsRow_nil _ _ _ _
  ·exact ⟨rfl,.inr ⟨ob,2,_,rfl,hB,ho,Nat.le_refl _,by unfold maxLen; omega,rfl,rfl⟩⟩
  ·exact World.ownsRow_nil _ _ _ _
  ·exact World.ownsRow_nil _ _ _ _
 ·unfold kfU
  by_cases e:j=1
  ·rw [if_pos e,if_neg (by omega)]
   exact .inr (by simp [Value.ownBlock])
  ·rw [if_neg e]
   exact .inl rfl
theorem kf_sm4 (b2 b3 : Bool) : FldSm (fldAt (kf4 b2 b3) 0) ∧ FldSm (fldAt (kf4 b2 b3) 1) ∧ FldSm (fldAt (kf4 b2 b3) 2) ∧ FldSm (fldAt (kf4 b2 b3) 3) := by
 cases b2 <;> cases b3
 all_goals
  refine ⟨⟨by decide,by decide,by decide,by decide,by decide,by decide,by decide,by decide,fun s hs => by cases hs⟩,⟨by decide,by decide,by decide,by decide,by decide,by decide,by decide,by decide,fun s hs => ?_⟩,⟨by decide,by decide,by decide,by decide,by decide,by decide,by decide,by decide,fun s hs => by cases hs⟩,⟨by decide,by decide,by decide,by decide,by decide,by decide,by decide,by decide,fun s hs => by cases hs⟩⟩
  have hs':s=⟨#[119,111,114,100,115]⟩ ∨ s=⟨#[97,99,116,115]⟩:=by simpa [fldAt,kf4] using hs
  rcases hs' with rfl | rfl <;> decide
theorem kf_ol (b2 b3 : Bool) (m : Nat) : ∀ k,k < ((kf4 b2 b3).take m).length → (fldAt ((kf4 b2 b3).take m) k).opts.length ≤ 2 := fun k hk => by
 rw [List.length_take] at hk
 have hk4:k=0 ∨ k=1 ∨ k=2 ∨ k=3:=by have:(kf4 b2 b3).length=4:=rfl; omega
 rw [fldAt_take _ _ _ (by omega)]
 rcases hk4 with rfl | rfl | rfl | rfl
 ·show (0:Nat) ≤ 2; omega
 ·show (2:Nat) ≤ 2; omega
 ·show (0:Nat) ≤ 2; omega
 ·show (0:Nat) ≤ 2; omega
theorem kf_most (b2 b3 : Bool) (m : Nat) : ∀ k,k < ((kf4 b2 b3).take m).length → (fldAt ((kf4 b2 b3).take m) k).most ≤ 3652058 := fun k hk => by
 rw [List.length_take] at hk
 have hk4:k=0 ∨ k=1 ∨ k=2 ∨ k=3:=by have:(kf4 b2 b3).length=4:=rfl; omega
 rw [fldAt_take _ _ _ (by omega)]
 rcases hk4 with rfl | rfl | rfl | rfl
 ·show (20:Int) ≤ 3652058; decide
 ·show (0:Int) ≤ 3652058; decide
 ·show (9:Int) ≤ 3652058; decide
 ·show (3652058:Int) ≤ 3652058; decide
theorem kf_sm (b2 b3 : Bool) (m : Nat) : ∀ k,k < ((kf4 b2 b3).take m).length → FldSm (fldAt ((kf4 b2 b3).take m) k) := fun k hk => by
 rw [List.length_take] at hk
 have hk4:k=0 ∨ k=1 ∨ k=2 ∨ k=3:=by have:(kf4 b2 b3).length=4:=rfl; omega
 rw [fldAt_take _ _ _ (by omega)]
 obtain ⟨a,b,c,d⟩:=kf_sm4 b2 b3
 rcases hk4 with rfl | rfl | rfl | rfl
 ·exact a
 ·exact b
 ·exact c
 ·exact d
set_option maxRecDepth 100000 in
set_option maxHeartbeats 4000000 in
theorem k_Form (db : Nat) (w : World) (hd : Dc w db) : Calls Tryz.prog 10 #[.pointer (some ⟨db,0,none⟩)] w (FormE w db) := by
  obtain ⟨i0,hi,hz0,hz1,hz2⟩:=info_parts infoFd
  obtain ⟨j0,hj,hy0,hy1,hy2⟩:=info_parts infoTx
  have hlt:=hd.lt
  have HD:=Lib.hid hd
  clear hd
  go_enter Tryz.func10,Tryz.ntmps10
  go_wp2_with fail
  have hd0:=(HD.out.alloc (.cells #[.string ⟨#[]⟩,.slice none 0 0] 37)).alloc (.cells #[.string ⟨#[114,101,112,111,114,116]⟩,.string ⟨#[]⟩,.string ⟨#[102,111,114,109,32,50]⟩] 9)
  have hb0:=Blk.new (w.alloc (.cells #[.string ⟨#[]⟩,.slice none 0 0] 37)) 9 #[.string ⟨#[114,101,112,111,114,116]⟩,.string ⟨#[]⟩,.string ⟨#[102,111,114,109,32,50]⟩]
  rw [World.size_alloc] at hb0
  refine (k_WordK db (w.heap.size+1) 0 3 3 kfT _ hd0 (by simp) (by omega) (by omega) (by omega) (fun i hi => ?_)).mono ?_
  · have h9:i=0 ∨ i=1 ∨ i=2:=by omega
    rcases h9 with rfl | rfl | rfl
    · exact hb0.cell 0
    · exact hb0.cell 1
    · exact hb0.cell 2
  rintro e w1 ⟨r0,hr0,rfl,hd1,hg1⟩
  have htz:=kfT_small r0
  generalize kfT r0=t at htz ⊢
  have hs1:=hg1.size
  simp only [World.size_alloc] at hs1
  have hres1:Blk w1 w.heap.size 37 #[.string ⟨#[]⟩,.slice none 0 0]:=(hg1.block _ (by simp; omega) (by intro e; injection e; omega)).trans ((Blk.new w 37 #[.string ⟨#[]⟩,.slice none 0 0]).alloc _)
  have hgw1:w.grownBy w1 (some db):=gb_trans (gb_trans (World.grownBy_alloc w _ (some db)) (World.grownBy_alloc _ _ (some db))) hg1
  have HD1:=Lib.hid hd1
  have HR1:=Lib.hid hres1
  have HG1:=Lib.hid hgw1
  clear hd0 hb0 hd1 hg1 hres1 hgw1 hr0
  go_wp2_with fail
  refine (k_Next db 2 w1 HD1.out (by omega) (by omega)).mono ?_
  rintro e w2 ⟨r2,hr2,rfl,hd2,hg2⟩
  have hs2:=hg2.size
  have HD2:=Lib.hid (hd2.alloc (.cells #[.string ⟨#[119,111,114,100,115]⟩,.string ⟨#[97,99,116,115]⟩] 9))
  have HG2:=Lib.hid (gb_trans HG1.out hg2)
  have HR2:=Lib.hid ((show Blk w2 w.heap.size 37 #[.string ⟨#[]⟩,.slice none 0 0] from (hg2.block _ (by omega) (by intro e; injection e; omega)).trans HR1.out))
  clear hd2 hg2
  go_wp2_with fail
  refine (k_Next db 3 _ HD2.out (by omega) (by omega)).mono ?_
  rintro e w3 ⟨r3,hr3,rfl,hd3,hg3⟩
  have hs3:=hg3.size
  simp only [World.size_alloc] at hs3
  have hws:=(hg3.block w2.heap.size (by simp) (by intro e; injection e; omega)).trans (Blk.new w2 9 #[.string ⟨#[119,111,114,100,115]⟩,.string ⟨#[97,99,116,115]⟩])
  have hr3a:Blk w3 w.heap.size 37 #[.string ⟨#[]⟩,.slice none 0 0]:=(hg3.block _ (by simp; omega) (by intro e; injection e; omega)).trans ((Below.heap_alloc w2 _ _ (by omega)).trans HR2.out)
  have HD3:=Lib.hid hd3
  have HG3:=Lib.hid (gb_trans (gb_trans HG2.out (World.grownBy_alloc w2 _ (some db))) hg3)
  clear hd3 hg3
  go_wp2_with fail
  generalize ((r2:Int) == 0)=b2
  generalize ((r3:Int) == 1)=b3
  have hd3a:=HD3.out.alloc (.cells (kfC b2 b3 (.slice (some ⟨w2.heap.size,0,none⟩) 2 2)) 58)
  refine (k_Next db 4 _ hd3a (by omega) (by omega)).mono ?_
  rintro e w4 ⟨r4,hr4,rfl,hd4,hg4⟩
  have hs4:=hg4.size
  simp only [World.size_alloc] at hs4
  have hfb4:Blk w4 w3.heap.size 58 (kfC b2 b3 (.slice (some ⟨w2.heap.size,0,none⟩) 2 2)):=(hg4.block w3.heap.size (by simp) (by intro e; injection e; omega)).trans (Blk.new w3 _ _)
  have hws4:Blk w4 w2.heap.size 9 #[.string ⟨#[119,111,114,100,115]⟩,.string ⟨#[97,99,116,115]⟩]:=(hg4.block w2.heap.size (by simp; omega) (by intro e; injection e; omega)).trans ((Below.heap_alloc w3 _ _ (by omega)).trans hws)
  have hsl:=fun (W:World) => run_slice_hi (P:=Tryz.prog) W 35 58 i0 Tryz.underlying35 hi (some ⟨w3.heap.size,0,none⟩) 4 4 (1+r4) (by omega) (1+(r4:Int)) (by omega)
  have hres4:Blk w4 w.heap.size 37 #[.string ⟨#[]⟩,.slice none 0 0]:=(hg4.block _ (by simp; omega) (by intro e; injection e; omega)).trans ((Below.heap_alloc w3 _ _ (by omega)).trans hr3a)
  have hgw4:=gb_trans (gb_trans HG3.out (World.grownBy_alloc w3 (.cells (kfC b2 b3 (.slice (some ⟨w2.heap.size,0,none⟩) 2 2)) 58) (some db))) hg4
  obtain ⟨m,hm⟩:∃ m,1+r4=m:=⟨_,rfl⟩
  rw [hm] at hsl
  have hS4:FoS w (w4.alloc (.cells #[.string t,.slice (some ⟨w3.heap.size,0,none⟩) m 4] 37)) db w4.heap.size w3.heap.size m t ((kf4 b2 b3).take m) (kfU (.slice (some ⟨w2.heap.size,0,none⟩) 2 2)) :=
    ⟨by rw [List.length_take]; show m=min m 4; omega,by omega,hd4.alloc _,kf_fob (hfb4.alloc _) (hws4.alloc _) (by omega) (by omega),⟨_,hfb4.alloc _⟩,Blk.new w4 _ _,hres4.alloc _,gb_trans hgw4 (World.grownBy_alloc w4 _ (some db)),⟨by omega,kf_sm b2 b3 m⟩,hlt,by omega,by omega⟩
  have HS4:=Lib.hid hS4
  have HMX:=Lib.hid (kf_most b2 b3 m)
  have HOL:=Lib.hid (kf_ol b2 b3 m)
  have hm4:1 ≤ m ∧ m ≤ 4:=by omega
  clear hd3a hd4 hg4 hfb4 hws4 hws hres4 hgw4 hS4 HG1 HG2 HG3 HR1 HR2 HD1 HD2 HD3 hr3a
  go_wp2_with fail
  obtain ⟨w5,hw5⟩:∃ w5,w4.alloc (.cells #[.string t,.slice (some ⟨w3.heap.size,0,none⟩) m 4] 37)=w5:=⟨_,rfl⟩
  obtain ⟨tb,htb⟩:∃ tb,w4.heap.size=tb:=⟨_,rfl⟩
  obtain ⟨g,hgg⟩:∃ g,w3.heap.size=g:=⟨_,rfl⟩
  rw [hw5,htb,hgg] at HS4
  rw [hw5,htb,hgg]
  clear hw5 htb hgg hsl hs4 hs3 hs2 hs1 hm
  generalize (kf4 b2 b3).take m=L at *
  generalize kfU (.slice (some ⟨w2.heap.size,0,none⟩) 2 2)=us at *
  refine (k_Next db 6 w5 HS4.out.dc (by omega) (by omega)).mono ?_
  rintro e w6 ⟨r6,hr6,rfl,hd6,hg6⟩
  have HS6:=Lib.hid (HS4.out.dice hd6 hg6)
  have htg:=HS4.out.tlt
  have hgg:=HS4.out.glt
  clear hd6 hg6 HS4
  by_cases h1:r6=1
  · subst h1
    have y1:=HS6.out.t1
    have yl:=HS6.out.glw
    go_upto_region 4 with fail
    have hnx:∀ W:World,FoS w W db tb g m t L us → Calls Tryz.prog 33 #[.pointer (some ⟨db,0,none⟩),.int .i64 (m:Int)] W fun e W' => ∃ r:Nat,r < m ∧ e=.returned (.int .i64 (r:Int)) ∧ FoS w W' db tb g m t L us:=fun W h =>
      (k_Next db m W h.dc hm4.1 (by omega)).mono fun e W' hh => by
        obtain ⟨r,hr,he,hd,hg⟩:=hh
        exact ⟨r,hr,he,h.dice hd hg⟩
    have HNX:=Lib.hid hnx
    have hlim:∀ W:World,FoS w W db tb g m t L us → W.cell? ⟨tb,1,none⟩=some (.slice (some ⟨g,0,none⟩) m 4) ∧ Hid (FoS w W db tb g m t L us):=fun W h => ⟨h.t1,Lib.hid h⟩
    have HLIM:=Lib.hid hlim
    have HS6d:Hid (FoS w w6.drew db tb g m t L us):=Lib.hid (HS6.out.keep HS6.out.dc.drew (row:=none) (only_drewN (World.grownBy.refl w6 _) 1) (fun q hq => by cases hq))
    clear hnx hlim
    go_region_held3 (fun W => W.cell? ⟨tb,1,none⟩=some (.slice (some ⟨g,0,none⟩) m 4) ∧ Hid (FoS w W db tb g m t L us))
      (first
        | with_reducible exact HLIM.out _ HS6d.out
        | with_reducible exact HLIM.out _ HS7.out)
      (first
        | (go_at_call 33
           (with_reducible refine (HNX.out _ HS6d.out).mono ?_)
           rintro e w7 ⟨r,hrm,rfl,hS7⟩
           have HS7:=Lib.hid hS7
           have qr:(r:Int) < (m:Int):=by omega
           have qr0:(0:Int) ≤ (r:Int):=by omega
           clear hS7))
    all_goals
      clear HS6d HNX HLIM HS6 y1 yl
      go_wp2_with fail
      refine (k_Next db 9 w7 HS7.out.dc (by omega) (by omega)).mono ?_
      rintro e w8 ⟨r9,hr9,rfl,hd8,hg8⟩
      have HS8:=Lib.hid (HS7.out.dice hd8 hg8)
      clear hd8 hg8 HS7
      have hrl:r < L.length:=by have:=HS8.out.len; omega
      have hsmr:=HS8.out.sm.2 r hrl
      have HSM:=Lib.hid hsmr
      have HRL:=Lib.hid hrl
      obtain ⟨n1,n2,n3,n4,n5,n6,n7,n8,n9⟩:=hsmr
      have h9:r9=0 ∨ r9=1 ∨ r9=2 ∨ r9=3 ∨ r9=4 ∨ r9=5 ∨ r9=6 ∨ r9=7 ∨ r9=8:=by omega
      have HN9:=Lib.hid n9
      clear n9 hrl
      rcases h9 with rfl | rfl | rfl | rfl | rfl | rfl | rfl | rfl | rfl
      all_goals clear hr9
      · go_wp2_with fail
        have hs8:=HS8.out.alloc (.cells #[.string ⟨#[]⟩,.string ⟨#[97,108,108]⟩,.string ⟨#[87,104,97,116]⟩,.string ⟨#[97,45,98]⟩,.string ⟨#[111,102]⟩,.string ⟨#[57,97]⟩,.string ⟨#[97,57,95]⟩,.string ⟨#[107,105,110,100]⟩,.string ⟨#[97,98,99,100,101,102,103,104,105,106,107,108,109,110,111,112,113,114,115,116,117,118,119,120,121,122,97,98,99,100,101,102,103]⟩] 9)
        have hb8:Blk (w8.alloc (.cells #[.string ⟨#[]⟩,.string ⟨#[97,108,108]⟩,.string ⟨#[87,104,97,116]⟩,.string ⟨#[97,45,98]⟩,.string ⟨#[111,102]⟩,.string ⟨#[57,97]⟩,.string ⟨#[97,57,95]⟩,.string ⟨#[107,105,110,100]⟩,.string ⟨#[97,98,99,100,101,102,103,104,105,106,107,108,109,110,111,112,113,114,115,116,117,118,119,120,121,122,97,98,99,100,101,102,103]⟩] 9)) w8.heap.size 9 #[.string ⟨#[]⟩,.string ⟨#[97,108,108]⟩,.string ⟨#[87,104,97,116]⟩,.string ⟨#[97,45,98]⟩,.string ⟨#[111,102]⟩,.string ⟨#[57,97]⟩,.string ⟨#[97,57,95]⟩,.string ⟨#[107,105,110,100]⟩,.string ⟨#[97,98,99,100,101,102,103,104,105,106,107,108,109,110,111,112,113,114,115,116,117,118,119,120,121,122,97,98,99,100,101,102,103]⟩]:=Blk.new w8 _ _
        have hl8:=HS8.out.dc.lt
        refine (k_WordK db w8.heap.size 0 9 9 kf9 _ hs8.dc (by simp) (by omega) (by omega) (by omega) (fun i hi => ?_)).mono ?_
        · have h9:i=0 ∨ i=1 ∨ i=2 ∨ i=3 ∨ i=4 ∨ i=5 ∨ i=6 ∨ i=7 ∨ i=8:=by omega
          rcases h9 with rfl | rfl | rfl | rfl | rfl | rfl | rfl | rfl | rfl
          · exact hb8.cell 0
          · exact hb8.cell 1
          · exact hb8.cell 2
          · exact hb8.cell 3
          · exact hb8.cell 4
          · exact hb8.cell 5
          · exact hb8.cell 6
          · exact hb8.cell 7
          · exact hb8.cell 8
        rintro e w9 ⟨r9,hr9,rfl,hd9,hg9⟩
        have HS9:=Lib.hid (hs8.dice hd9 hg9)
        have hz:=kf9_small r9
        generalize kf9 r9=x at hz ⊢
        clear hd9 hg9 hs8 hb8 HS8
        have y0:=HS9.out.t0
        have y1:=HS9.out.t1
        have y2:=HS9.out.r0
        have y3:=HS9.out.r1
        have y4:=HS9.out.rf 0
        have y5:=HS9.out.rf 1
        have yg:=HS9.out.glw
        have q0:=HS9.out.ct r 0 hrm (by decide)
        have k0:=HS9.out.ft (r*6)
        simp only [fdCell,List.getD_cons_zero,List.getD_cons_succ,Nat.add_zero] at q0
        obtain ⟨fb1,hg1⟩:=HS9.out.put1 (i:=0) hrm (by decide) { fldAt L r with name:=x } (.string x) rfl rfl
        simp only [Nat.add_zero] at fb1 hg1
        have FB:=Lib.hid fb1
        have HG:=Lib.hid hg1
        clear fb1 hg1
        go_wp2_with fail
        obtain ⟨fin,x0,x1⟩:=HS9.out.fin FB.out (by rw [List.length_set]; exact HS9.out.len.symm) HG.out (sm_set HS9.out.sm.2 HRL.out ⟨hz,HSM.out.2⟩) (.string t) (.slice (some ⟨g,0,none⟩) m 4)
        refine bodyPost_ret (v:=.agg #[.string t,.slice (some ⟨g,0,none⟩) m 4]) ?_ rfl ?_
        · simp [results,Tryz.results10,go_sem,x0,x1]
        · exact fin
      · go_wp2_with fail
        refine (k_Next db 6 w8 HS8.out.dc (by omega) (by omega)).mono ?_
        rintro e w9 ⟨r9,hr9,rfl,hd9,hg9⟩
        have HS9:=Lib.hid (HS8.out.dice hd9 hg9)
        clear hd9 hg9 HS8
        have y0:=HS9.out.t0
        have y1:=HS9.out.t1
        have y2:=HS9.out.r0
        have y3:=HS9.out.r1
        have y4:=HS9.out.rf 0
        have y5:=HS9.out.rf 1
        have yg:=HS9.out.glw
        have q1:=HS9.out.ct r 1 hrm (by decide)
        have k1:=HS9.out.ft (r*6+1)
        simp only [fdCell,List.getD_cons_zero,List.getD_cons_succ,Nat.add_zero] at q1
        obtain ⟨fb1,hg1⟩:=HS9.out.put1 (i:=1) hrm (by decide) { fldAt L r with kind:=(r9:Int) } (.int .i64 (r9:Int)) rfl rfl
        have FB:=Lib.hid fb1
        have HG:=Lib.hid hg1
        clear fb1 hg1
        go_wp2_with fail
        obtain ⟨fin,x0,x1⟩:=HS9.out.fin FB.out (by rw [List.length_set]; exact HS9.out.len.symm) HG.out (sm_set HS9.out.sm.2 HRL.out ⟨n1,n2,by show -1000000000 ≤ (r9:Int); omega,by show (r9:Int) ≤ _; omega,HSM.out.2.2.2.2⟩) (.string t) (.slice (some ⟨g,0,none⟩) m 4)
        refine bodyPost_ret (v:=.agg #[.string t,.slice (some ⟨g,0,none⟩) m 4]) ?_ rfl ?_
        · simp [results,Tryz.results10,go_sem,x0,x1]
        · exact fin
      · have y0:=HS8.out.t0
        have y1:=HS8.out.t1
        have y2:=HS8.out.r0
        have y3:=HS8.out.r1
        have y4:=HS8.out.rf 0
        have y5:=HS8.out.rf 1
        have yg:=HS8.out.glw
        have q3:=HS8.out.ct r 3 hrm (by decide)
        have k3:=HS8.out.ft (r*6+3)
        have q4:=HS8.out.ct r 4 hrm (by decide)
        have k4:=HS8.out.ft (r*6+4)
        simp only [fdCell,List.getD_cons_zero,List.getD_cons_succ] at q3 q4
        obtain ⟨fb1,hg1⟩:=HS8.out.put2 hrm ((fldAt L r).most+1) (fldAt L r).least
        have hsm2:∀ j,j < ((L.set r { fldAt L r with least:=(fldAt L r).most+1 }).set r { fldAt L r with least:=(fldAt L r).most+1,most:=(fldAt L r).least }).length → FldSm (fldAt ((L.set r { fldAt L r with least:=(fldAt L r).most+1 }).set r { fldAt L r with least:=(fldAt L r).most+1,most:=(fldAt L r).least }) j):=by
          rw [List.set_set]
          exact sm_set HS8.out.sm.2 HRL.out ⟨n1,n2,n3,n4,by show _ ≤ (fldAt L r).most+1; omega,(by show (fldAt L r).most+1 ≤ _; have:=HMX.out r HRL.out; omega),n5,n6,HN9.out⟩
        have hl2:((L.set r { fldAt L r with least:=(fldAt L r).most+1 }).set r { fldAt L r with least:=(fldAt L r).most+1,most:=(fldAt L r).least }).length=m:=by rw [List.length_set,List.length_set]; exact HS8.out.len.symm
        generalize ((L.set r { fldAt L r with least:=(fldAt L r).most+1 }).set r { fldAt L r with least:=(fldAt L r).most+1,most:=(fldAt L r).least })=L2 at *
        generalize (fldAt L r).least=le at *
        generalize (fldAt L r).most=mo at *
        have hw:IntKind.i64.wrap (mo+1)=mo+1:=IntWalk.i64_in _ ⟨by omega,by omega⟩
        have o1:(w8.setCell ⟨g,r*6+3,none⟩ (.int .i64 (mo+1))).cell? ⟨g,r*6+4,none⟩=some (.int .i64 mo):=by rw [World.cell?_setCell_other _ _ _ _ (by intro e'; injection e' with e1 e2; omega)]; exact q4
        have o2:(w8.setCell ⟨g,r*6+4,none⟩ (.int .i64 le)).cell? ⟨g,r*6+3,none⟩=some (.int .i64 le):=by rw [World.cell?_setCell_other _ _ _ _ (by intro e'; injection e' with e1 e2; omega)]; exact q3
        have FB:=Lib.hid fb1
        have HG:=Lib.hid hg1
        have HL2:=Lib.hid hl2
        have HSM2:=Lib.hid hsm2
        clear fb1 hg1 hl2 hsm2
        go_upto_region 11 with fail
        go_region
        all_goals
          go_wp2_with fail
          obtain ⟨fin,x0,x1⟩:=HS8.out.fin FB.out HL2.out HG.out HSM2.out (.string t) (.slice (some ⟨g,0,none⟩) m 4)
          have x2:=cell_drew' x0
          have x3:=cell_drew' x1
          refine bodyPost_ret (v:=.agg #[.string t,.slice (some ⟨g,0,none⟩) m 4]) ?_ rfl ?_
          · simp [results,Tryz.results10,go_sem,x0,x1,x2,x3]
          · exact fin.drew
      · go_wp2_with fail
        have hs8:=HS8.out.alloc (.cells #[.int .i64 16384,.int .i64 16385,.int .i64 3652059,.int .i64 (-1)] 3)
        refine (k_Next db 4 _ hs8.dc (by omega) (by omega)).mono ?_
        rintro e w9 ⟨r9,hr9,rfl,hd9,hg9⟩
        have hl8:=HS8.out.dc.lt
        have hsz9:=hg9.size
        simp only [World.size_alloc] at hsz9
        have hb9:Blk w9 w8.heap.size 3 #[.int .i64 16384,.int .i64 16385,.int .i64 3652059,.int .i64 (-1)]:=(hg9.block w8.heap.size (by simp) (by intro e; injection e; omega)).trans (Blk.new w8 _ _)
        obtain ⟨x,hx,hxs⟩:∃ x:Int,w9.cell? ⟨w8.heap.size,r9,none⟩=some (.int .i64 x) ∧ -1000000000 ≤ x ∧ x ≤ 1000000000:=by
          have h9:r9=0 ∨ r9=1 ∨ r9=2 ∨ r9=3:=by omega
          rcases h9 with rfl | rfl | rfl | rfl
          · exact ⟨_,hb9.cell 0,by decide,by decide⟩
          · exact ⟨_,hb9.cell 1,by decide,by decide⟩
          · exact ⟨_,hb9.cell 2,by decide,by decide⟩
          · exact ⟨_,hb9.cell 3,by decide,by decide⟩
        have HS9:=Lib.hid (hs8.dice hd9 hg9)
        clear hd9 hg9 hs8 hb9 HS8
        have y0:=HS9.out.t0
        have y1:=HS9.out.t1
        have y2:=HS9.out.r0
        have y3:=HS9.out.r1
        have y4:=HS9.out.rf 0
        have y5:=HS9.out.rf 1
        have yg:=HS9.out.glw
        have q4:=HS9.out.ct r 4 hrm (by decide)
        have k4:=HS9.out.ft (r*6+4)
        simp only [fdCell,List.getD_cons_zero,List.getD_cons_succ,Nat.add_zero] at q4
        obtain ⟨fb1,hg1⟩:=HS9.out.put1 (i:=4) hrm (by decide) { fldAt L r with most:=x } (.int .i64 x) rfl rfl
        have FB:=Lib.hid fb1
        have HG:=Lib.hid hg1
        clear fb1 hg1
        go_wp2_with fail
        obtain ⟨fin,x0,x1⟩:=HS9.out.fin FB.out (by rw [List.length_set]; exact HS9.out.len.symm) HG.out (sm_set HS9.out.sm.2 HRL.out ⟨n1,n2,n3,n4,n5,n6,hxs.1,hxs.2,HN9.out⟩) (.string t) (.slice (some ⟨g,0,none⟩) m 4)
        refine bodyPost_ret (v:=.agg #[.string t,.slice (some ⟨g,0,none⟩) m 4]) ?_ rfl ?_
        · simp [results,Tryz.results10,go_sem,x0,x1]
        · exact fin
      · have HO2:=Lib.hid (HOL.out r HRL.out)
        have hop:=HS8.out.fb.opts r HRL.out
        obtain ⟨Au,cu,hue⟩:=own_slice hop
        have q5:=HS8.out.ct r 5 hrm (by decide)
        have k5:=HS8.out.ft (r*6+5)
        simp only [fdCell,List.getD_cons_zero,List.getD_cons_succ] at q5
        rw [hue] at q5 hop
        obtain ⟨nu,hnu⟩:∃ nu,(fldAt L r).opts.length=nu:=⟨_,rfl⟩
        obtain ⟨cells,hcells⟩:∃ cells,(fldAt L r).opts.map Value.string=cells:=⟨_,rfl⟩
        rw [hnu] at q5 hue n2
        rw [hnu,hcells] at hop
        have HNU:=Lib.hid hnu
        have HCE:=Lib.hid hcells
        have HUE:=Lib.hid hue
        have hl8:=HS8.out.dc.lt
        have yg:=HS8.out.glw
        have hwd:∀ W:World,FoS w W db tb g m t L us → Blk W w8.heap.size 9 #[.string ⟨#[119,111,114,100,115]⟩,.string ⟨#[]⟩,.string ⟨#[110,101,119]⟩] → w8.heap.size < W.heap.size → Calls Tryz.prog 18 #[.pointer (some ⟨db,0,none⟩),.slice (some ⟨w8.heap.size,0,none⟩) 3 3] W fun e W' => ∃ x:ByteArray,x.size ≤ 100 ∧ e=.returned (.string x) ∧ FoS w W' db tb g m t L us ∧ W.heap.size ≤ W'.heap.size:=fun W h hb hl => by
          refine (k_WordK db w8.heap.size 0 3 3 kf3 W h.dc hl (by omega) (by omega) (by omega) (fun i hi => ?_)).mono ?_
          · have h9:i=0 ∨ i=1 ∨ i=2:=by omega
            rcases h9 with rfl | rfl | rfl
            · exact hb.cell 0
            · exact hb.cell 1
            · exact hb.cell 2
          · rintro e W' ⟨r9,hr9,rfl,hd9,hg9⟩
            exact ⟨_,kf3_small r9,rfl,h.dice hd9 hg9,hg9.size⟩
        have hou:∀ W:World,FoS w W db tb g m t L us → W.cell? ⟨g,r*6+5,none⟩=some (.slice Au nu cu) ∧ W.frozen? ⟨g,r*6+5,none⟩=false ∧ W.ownsRow (w.heap.size+1) 9 1 (.slice Au nu cu) nu cells:=fun W h => by
          have a1:=h.ct r 5 hrm (by decide)
          have a2:=h.fb.opts r HRL.out
          simp only [fdCell,List.getD_cons_zero,List.getD_cons_succ] at a1
          rw [HUE.out] at a1 a2
          rw [HNU.out,HCE.out] at a2
          exact ⟨a1,h.ft _,a2⟩
        have HWD:=Lib.hid hwd
        have HOU:=Lib.hid hou
        have b0:=(hou w8.drew HS8.out.drew).1
        have b1:=fun o => (hou (w8.alloc o) (HS8.out.alloc o)).1
        have b2:=fun o => (hou (w8.alloc o).drew (HS8.out.alloc o).drew).1
        have b3:=fun o => (hou (w8.drew.alloc o) (HS8.out.drew.alloc o)).1
        clear hwd hou hop hue hnu hcells
        go_upto_region 15 with fail
        go_region_law (first
          | (refine step_append_lies _ (by rfl) _ _ _ (by rfl) (w.heap.size+1) 9 j0 _ 1 16 Tryz.underlying41 hj hy0 hy1 hy2 rfl (by omega) (.slice Au nu cu) nu cells (by rfl) (E9.out.alloc _) ⟨w9.heap.size,0,none⟩ 1 1 [.string x] (by rfl) (by rfl) (cell_one_new _ _ _) (by intro u hu; simp at hu; subst hu; rfl) (by omega) (by simp only [maxLen]; omega) (by omega) (by simp; omega) (w9.heap.size+1) (by simp) ?_; intro gg cap w10 hown10 hgr10 hat10 hlt10; have MO:=Lib.hid (HS9.out.more hrm (v':=.slice (some ⟨gg,0,none⟩) (nu+1) cap) (x:=x) (by rw [HNU.out,HCE.out]; exact hown10) (by rw [HUE.out]; exact hgr10) (by rw [HUE.out]; rcases hat10 with e | e; exact .inl e.symm; exact .inr (fun q hq => by have e2:=Option.some.inj hq; have e3:gg=q:=e2; omega))); have mc:=MO.out.2.2.1; rw [HUE.out] at mc; have mf:=MO.out.2.2.2.1; clear hown10 hgr10 hat10)
          | ((try go_simp); go_at_call 18; ((with_reducible refine (HWD.out _ (by first | exact HS8.out.alloc _ | exact (HS8.out.alloc _).drew | exact HS8.out.drew.alloc _) (by first | exact Blk.new w8 _ _ | exact blk_drew (Blk.new w8 _ _)) (by simp)).mono ?_); rintro e w9 ⟨x,hx,rfl,hS9,hs9⟩; have HS9:=Lib.hid hS9; obtain ⟨d0,d1,d2⟩:=HOU.out w9 hS9; have E9:=Lib.hid d2; have d3:=(fun o => (HOU.out (w9.alloc o) (hS9.alloc o)).1); have d4:=HS9.out.glw; clear hS9 d2)))
        all_goals
          have y0:=MO.out.2.2.2.2.1
          have y1:=MO.out.2.2.2.2.2.1
          have y2:=MO.out.2.2.2.2.2.2.1
          have y3:=MO.out.2.2.2.2.2.2.2.1
          have y4:=MO.out.2.2.2.2.2.2.2.2.1
          have y5:=MO.out.2.2.2.2.2.2.2.2.2
          have HX:=Lib.hid hx
          go_wp2_with fail
          obtain ⟨fin,x0,x1⟩:=HS9.out.fin MO.out.1 (by rw [List.length_set]; exact HS9.out.len.symm) MO.out.2.1 (sm_set HS9.out.sm.2 HRL.out ⟨n1,(by rw [List.length_append]; show _+1 ≤ 20; have:=HO2.out; omega),n3,n4,n5,n6,n7,n8,fun s hs => by
              rcases List.mem_append.1 hs with e | e
              · exact HN9.out s e
              · rw [List.mem_singleton.1 e]; exact HX.out⟩) (.string t) (.slice (some ⟨g,0,none⟩) m 4)
          refine bodyPost_ret (v:=.agg #[.string t,.slice (some ⟨g,0,none⟩) m 4]) ?_ rfl ?_
          · simp [results,Tryz.results10,go_sem,x0,x1]
          · exact fin
      · skip
        have y0:=HS8.out.t0
        have y1:=HS8.out.t1
        have y2:=HS8.out.r0
        have y3:=HS8.out.r1
        have y4:=HS8.out.rf 0
        have y5:=HS8.out.rf 1
        have yg:=HS8.out.glw
        have q3:=HS8.out.ct r 3 hrm (by decide)
        have k3:=HS8.out.ft (r*6+3)
        simp only [fdCell,List.getD_cons_zero,List.getD_cons_succ,Nat.add_zero] at q3
        obtain ⟨fb1,hg1⟩:=HS8.out.put1 (i:=3) hrm (by decide) { fldAt L r with least:=-1 } (.int .i64 (-1)) rfl rfl
        have FB:=Lib.hid fb1
        have HG:=Lib.hid hg1
        clear fb1 hg1
        go_wp2_with fail
        obtain ⟨fin,x0,x1⟩:=HS8.out.fin FB.out (by rw [List.length_set]; exact HS8.out.len.symm) HG.out (sm_set HS8.out.sm.2 HRL.out ⟨n1,n2,n3,n4,(by show (-1000000000:Int) ≤ -1; decide),(by show (-1:Int) ≤ _; decide),n7,n8,HN9.out⟩) (.string t) (.slice (some ⟨g,0,none⟩) m 4)
        refine bodyPost_ret (v:=.agg #[.string t,.slice (some ⟨g,0,none⟩) m 4]) ?_ rfl ?_
        · simp [results,Tryz.results10,go_sem,x0,x1]
        · exact fin
      · skip
        have y0:=HS8.out.t0
        have y1:=HS8.out.t1
        have y2:=HS8.out.r0
        have y3:=HS8.out.r1
        have y4:=HS8.out.rf 0
        have y5:=HS8.out.rf 1
        have yg:=HS8.out.glw
        go_wp2_with fail
        obtain ⟨fin,x0,x1⟩:=HS8.out.fin HS8.out.fb HS8.out.len.symm (Chg.refl w8 _) HS8.out.sm.2 (.string t) (.slice (some ⟨g,0,none⟩) m 4)
        refine bodyPost_ret (v:=.agg #[.string t,.slice (some ⟨g,0,none⟩) m 4]) ?_ rfl ?_
        · simp [results,Tryz.results10,go_sem,x0,x1]
        · exact fin
      · skip
        have y0:=HS8.out.t0
        have y1:=HS8.out.t1
        have y2:=HS8.out.r0
        have y3:=HS8.out.r1
        have y4:=HS8.out.rf 0
        have y5:=HS8.out.rf 1
        have yg:=HS8.out.glw
        go_wp2_with fail
        obtain ⟨fin,x0,x1⟩:=HS8.out.fin HS8.out.fb HS8.out.len.symm (Chg.refl w8 _) HS8.out.sm.2 (.string t) (.slice (some ⟨g,0,none⟩) m 4)
        refine bodyPost_ret (v:=.agg #[.string t,.slice (some ⟨g,0,none⟩) m 4]) ?_ rfl ?_
        · simp [results,Tryz.results10,go_sem,x0,x1]
        · exact fin
      · skip
        have y0:=HS8.out.t0
        have y1:=HS8.out.t1
        have y2:=HS8.out.r0
        have y3:=HS8.out.r1
        have y4:=HS8.out.rf 0
        have y5:=HS8.out.rf 1
        have yg:=HS8.out.glw
        go_wp2_with fail
        obtain ⟨fin,x0,x1⟩:=HS8.out.fin HS8.out.fb HS8.out.len.symm (Chg.refl w8 _) HS8.out.sm.2 (.string t) (.slice (some ⟨g,0,none⟩) m 4)
        refine bodyPost_ret (v:=.agg #[.string t,.slice (some ⟨g,0,none⟩) m 4]) ?_ rfl ?_
        · simp [results,Tryz.results10,go_sem,x0,x1]
        · exact fin
  · have h1n:((r6:Int) == 1)=false:=by simp; omega
    have y0:=HS6.out.t0
    have y1:=HS6.out.t1
    have y2:=HS6.out.r0
    have y3:=HS6.out.r1
    have y4:=HS6.out.rf 0
    have y5:=HS6.out.rf 1
    have yg:=HS6.out.glw
    go_wp2_with fail
    obtain ⟨fin,x0,x1⟩:=HS6.out.fin HS6.out.fb HS6.out.len.symm (Chg.refl w6 _) HS6.out.sm.2 (.string t) (.slice (some ⟨g,0,none⟩) m 4)
    refine bodyPost_ret (v:=.agg #[.string t,.slice (some ⟨g,0,none⟩) m 4]) ?_ rfl ?_
    · simp [results,Tryz.results10,go_sem,x0,x1]
    · exact fin
theorem StmE.back {w w' : World} {db : Nat} {e : Ending} {o : Obj} (h : StmE (w.alloc o) db e w') : StmE w db e w' := by
 obtain ⟨s,Aa,na,ca,Ac,nc,cc,As,ns,cs,h1,h2,h3,h4,h5⟩:=h
 exact ⟨s,Aa,na,ca,Ac,nc,cc,As,ns,cs,h1,h2.mono fun b hb => ⟨by have:=hb.1; rw [World.size_alloc] at this; omega,hb.2⟩,h3,h4,gb_trans (World.grownBy_alloc w o (some db)) h5⟩
end Go.Proofs.YtgdngfdeeadlnaaGreatDoor
