/- Contracts: the kit's grow. -/
import Derived.Test.YtgdngfdeeadlnaaGreatDoorY12
import Derived.Test.YtgdngfdeeadlnaaGreatDoorY19
import Derived.Deep.CutRange
import Derived.Deep.CutBlock
import Derived.BigRegion
set_option linter.unusedVariables false
set_option linter.unusedSimpArgs false
namespace Go.Proofs.YtgdngfdeeadlnaaGreatDoor
open Go.RowKit Num
def GrowE (w : World) (db cb B : Nat) (v : Value) (L : List Trm) (us : Nat → Value) (d : Nat) (e : Ending) (w' : World) : Prop :=
 e=.returned (.tuple #[]) ∧ ∃ v' L' us',KSt w w' db cb B L.length v us v' L' us' ∧ L'.length ≤ L.length+szK d
def GrowC (d : Nat) : Prop := ∀ (w : World) (db cb B : Nat) (v : Value) (L : List Trm) (us : Nat → Value),Dc w db → db < B → B ≤ cb → Blk w cb 26 #[v] → OwnTs w B v L us → (∀ t ∈ L,KitT t) → L.length + szK d ≤ 1000 →
 Calls Tryz.prog 72 #[.pointer (some ⟨db,0,none⟩),.pointer (some ⟨cb,0,none⟩),.int .i64 (d:Int)] w (GrowE w db cb B v L us d)
theorem own_some {w : World} {B g n cap : Nat} {e : TypeId} {s : Nat} {xs : List Value} (h : w.ownsRow B e s (.slice (some ⟨g,0,none⟩) n cap) n xs) (j : Nat) (hj : j < xs.length) : ∃ u,w.cell? ⟨g,j,none⟩ = some u :=
 ⟨xs[j],own_cell h j _ (List.getElem?_eq_getElem hj)⟩
theorem put6_facts {w : World} {B g n cap k : Nat} {e : TypeId} {s : Nat} {xs : List Value} (h : w.ownsRow B e s (.slice (some ⟨g,0,none⟩) n cap) n xs) (hk : k * 6 + 5 < xs.length) (v0 v1 v2 v3 v4 : Value) :
  ∃ a0 a1 a2 a3 a4 a5,w.cell? ⟨g,k*6,none⟩=some a0 ∧ (w.setCell ⟨g,k*6,none⟩ v0).cell? ⟨g,k*6+1,none⟩=some a1 ∧
   ((w.setCell ⟨g,k*6,none⟩ v0).setCell ⟨g,k*6+1,none⟩ v1).cell? ⟨g,k*6+2,none⟩=some a2 ∧
   (((w.setCell ⟨g,k*6,none⟩ v0).setCell ⟨g,k*6+1,none⟩ v1).setCell ⟨g,k*6+2,none⟩ v2).cell? ⟨g,k*6+3,none⟩=some a3 ∧
   ((((w.setCell ⟨g,k*6,none⟩ v0).setCell ⟨g,k*6+1,none⟩ v1).setCell ⟨g,k*6+2,none⟩ v2).setCell ⟨g,k*6+3,none⟩ v3).cell? ⟨g,k*6+4,none⟩=some a4 ∧
   (((((w.setCell ⟨g,k*6,none⟩ v0).setCell ⟨g,k*6+1,none⟩ v1).setCell ⟨g,k*6+2,none⟩ v2).setCell ⟨g,k*6+3,none⟩ v3).setCell ⟨g,k*6+4,none⟩ v4).cell? ⟨g,k*6+5,none⟩=some a5:=by
 have s0:=(World.ownsRow.stored h (k*6) v0).1
 have s1:=(World.ownsRow.stored s0 (k*6+1) v1).1
 have s2:=(World.ownsRow.stored s1 (k*6+2) v2).1
 have s3:=(World.ownsRow.stored s2 (k*6+3) v3).1
 have s4:=(World.ownsRow.stored s3 (k*6+4) v4).1
 obtain ⟨a0,h0⟩:=own_some h (k*6) (by omega)
 obtain ⟨a1,h1⟩:=own_some s0 (k*6+1) (by simp; omega)
 obtain ⟨a2,h2⟩:=own_some s1 (k*6+2) (by simp; omega)
 obtain ⟨a3,h3⟩:=own_some s2 (k*6+3) (by simp; omega)
 obtain ⟨a4,h4⟩:=own_some s3 (k*6+4) (by simp; omega)
 obtain ⟨a5,h5⟩:=own_some s4 (k*6+5) (by simp; omega)
 exact ⟨a0,a1,a2,a3,a4,a5,h0,h1,h2,h3,h4,h5⟩
theorem kit_args (k : Int) (ar : List Int) (h : ar.length ≤ 3) : KitT ⟨k,0,0,E0,E0,ar⟩ := ⟨by show (0 : Nat) ≤ 4; omega,by show (0 : Nat) ≤ 5; omega,(fun c hc => by cases hc),(fun c hc => by cases hc),h⟩
def kitW : Nat → ByteArray
 | 0 => ⟨#[119,111,114,100,115]⟩
 | 1 => ⟨#[97,99,116,115]⟩
 | _ => ⟨#[111,116,104,101,114]⟩
theorem kit_choice (n : Int) (r : Nat) (hr : r < 3) : KitT ⟨7,n,0,⟨#[107,105,110,100]⟩,kitW r,[]⟩ := by
 refine ⟨by show (4:Nat) ≤ 4; omega,?_,(by show ∀ c ∈ ([107,105,110,100] : List UInt8),signB c=false; decide),?_,by show (0:Nat) ≤ 3; omega⟩
 ·match r,hr with
  | 0,_ => show (5:Nat) ≤ 5; omega
  | 1,_ => show (4:Nat) ≤ 5; omega
  | 2,_ => show (5:Nat) ≤ 5; omega
 ·match r,hr with
  | 0,_ => show ∀ c ∈ ([119,111,114,100,115] : List UInt8),signB c=false; decide
  | 1,_ => show ∀ c ∈ ([97,99,116,115] : List UInt8),signB c=false; decide
  | 2,_ => show ∀ c ∈ ([111,116,104,101,114] : List UInt8),signB c=false; decide
theorem kit_leaf (k n y : Int) : KitT ⟨k,n,y,E0,E0,[]⟩ := ⟨by show (0 : Nat) ≤ 4; omega,by show (0 : Nat) ≤ 5; omega,(fun c hc => by cases hc),(fun c hc => by cases hc),by show (0 : Nat) ≤ 3; omega⟩
set_option maxRecDepth 100000 in
set_option maxHeartbeats 4000000 in
theorem k_grow_step (d : Nat) (hd9 : d ≤ 9) (ih : ∀ d',d = d' + 1 → 1 ≤ d' → GrowC d') : GrowC d := by
  intro w db cb B v L us hdc hdb hcb hblk ho hkit hlen
  obtain ⟨i0,hi,hz0,hz1,hz2⟩:=info_parts infoT
  obtain ⟨j0,hj,hy0,hy1,hy2⟩:=info_parts infoI'
  obtain ⟨A1,cap1,rfl⟩:=own_slice ho.row
  have hszk:=szK_pos d
  have hcl:=hblk.lt
  obtain ⟨n0,hn0⟩:∃ n0,L.length=n0:=⟨_,rfl⟩
  have hrow:=ho.row
  rw [hn0] at hrow hlen hblk
  have hn1:n0 ≤ 1000:=by omega
  have x0:w.cell? ⟨cb,0,none⟩=some (.slice A1 n0 cap1):=hblk.cell 0
  have f0:=hblk.frozen 0
  have HD:=Lib.hid hdc
  have HO:=Lib.hid ho
  have HK:=Lib.hid hkit
  have HIH:=Lib.hid ih
  have HB:=Lib.hid hblk
  have HN0:=Lib.hid hn0
  have HLEN:=Lib.hid hlen
  have HSZ:=Lib.hid hszk
  clear hdc ho hkit ih hblk hlen hszk
  rw [hn0]
  clear hn0
  go_enter Tryz.func72,Tryz.ntmps72
  go_wp2_with (at_builtin; refine wpList_append_own_at _ rfl _ _ 24 rfl B 75 i0 (.agg #[.int .i64 0,.int .i64 0,.int .i64 0,.string ⟨#[]⟩,.string ⟨#[]⟩,.slice none 0 0]) 6 80 Tryz.underlying24 hi hz0 hz1 hz2 rfl (by decide) _ _ _ rfl (hrow.alloc _) ⟨w.heap.size,0,none⟩ 1 1 [.int .i64 0,.int .i64 0,.int .i64 0,.string ⟨#[]⟩,.string ⟨#[]⟩,.slice none 0 0] rfl rfl (cell_six_new _ _ _ _ _ _ _ _) (by intro u hu; simp at hu; rcases hu with rfl | rfl | rfl | rfl | rfl | rfl <;> rfl) (by unfold maxLen; omega) (by omega) (by simp; omega) ?_)
  intro v2 w2 hown2 hgrow2 _ hwh2
  obtain ⟨A2,cap2,rfl⟩:=own_slice hown2
  have hne0:some cb ≠ (Value.slice A1 n0 cap1).ownBlock:=fun e => own_not hrow HB.out (by decide) cb e.symm rfl
  have hB2:Blk w2 cb 26 #[.slice A1 n0 cap1]:=(HB.out.alloc _).grown' hgrow2 hne0
  have hO:OwnTs w B (.slice A1 n0 cap1) L us:=by have:=HO.out; rwa [HN0.out] at this
  have K3:KSt w (w2.setCell ⟨cb,0,none⟩ (.slice A2 (n0+1) cap2)) db cb B n0 (.slice A1 n0 cap1) us (.slice A2 (n0+1) cap2) (L ++ [trm0]) (fun k => if k=n0 then .slice none 0 0 else us k):=by
    have h:=KSt.start (A2:=A2) (cap2:=cap2) HD.out HB.out hO HK.out hdb hcb (by rw [HN0.out]; exact hown2) hgrow2 (by
      rw [HN0.out]
      rcases hwh2 with e | e
      · exact .inl e
      · exact .inr fun g hg => by rw [e] at hg; injection hg with hg; omega)
    rwa [HN0.out] at h
  obtain ⟨L2,hL2⟩:∃ L2,L ++ [trm0]=L2:=⟨_,rfl⟩
  obtain ⟨us2,hus2⟩:∃ us2:Nat → Value,(fun k => if k=n0 then .slice none 0 0 else us k)=us2:=⟨_,rfl⟩
  rw [hL2,hus2] at K3
  have hl2:L2.length=n0+1:=by rw [← hL2,List.length_append,HN0.out]; rfl
  have y0:=(hB2.cell 0).trans (show _=some (Value.slice A1 n0 cap1) from rfl)
  have f1:=hB2.frozen 0
  have HK3:=Lib.hid K3
  have HL2:=Lib.hid hl2
  clear hne0 hO K3 hB2 hL2 hus2 hl2 hown2 hgrow2 hwh2 hrow x0 f0
  go_wp2_with fail
  refine (k_Next db 4 _ HK3.out.dc (by omega) (by omega)).mono ?_
  rintro e w4 ⟨r4,hr4,rfl,hd4,hg4⟩
  have HK4:=Lib.hid (HK3.out.dice hd4 hg4 hdb hcb)
  clear HK3 hd4 hg4 y0 f1
  have hBw:B ≤ w.heap.size:=by omega
  have T5:KT w (w4.alloc (.cells #[.int .i64 0,.int .i64 (1+(r4:Int)),.int .i64 0,.string ⟨#[]⟩,.string ⟨#[]⟩,.slice none 0 0] 75)) B w4.heap.size (.slice A2 (n0+1) cap2) L2 us2 ⟨0,1+(r4:Int),0,E0,E0,[]⟩ (.slice none 0 0):=by
    refine ⟨Blk.new _ _ _,World.ownsRow_nil _ _ _ _,fun g hg => ?_,fun k hk => ?_,(fun g hg => by cases hg),HK4.out.chg.size⟩
    · have:=(HK4.out.own.row.lt g hg).2; omega
    · rcases hb:(us2 k).ownBlock with _ | q
      · exact .inl rfl
      · exact .inr (by simp [Value.ownBlock])
  have HT5:=Lib.hid T5
  have HK5:=Lib.hid (HK4.out.alloc (.cells #[.int .i64 0,.int .i64 (1+(r4:Int)),.int .i64 0,.string ⟨#[]⟩,.string ⟨#[]⟩,.slice none 0 0] 75))
  clear T5 HK4
  go_wp2_with fail
  refine (k_Next db 8 _ HK5.out.dc (by omega) (by omega)).mono ?_
  rintro e w6 ⟨r8,hr8,rfl,hd6,hg6⟩
  have HK6:=Lib.hid (HK5.out.dice hd6 hg6 hdb hcb)
  have HT6:=Lib.hid (HT5.out.dice hg6 hdb hBw)
  clear HK5 HT5 hd6 hg6
  go_upto_region 4 with fail
  obtain ⟨tb,htb⟩:∃ tb,w4.heap.size=tb:=⟨_,rfl⟩
  rw [htb] at HT6 ⊢
  clear htb
  obtain ⟨t6,ht6⟩:∃ t6:Trm,(⟨0,1+(r4:Int),0,E0,E0,[]⟩:Trm)=t6:=⟨_,rfl⟩
  rw [ht6] at HT6
  have HT0:=Lib.hid ht6
  clear ht6
  go_cut [35] from 30 to 35 (fun c wx => ∃ b:Bool,c=.bool b ∧ (b=false → 2 ≤ d) ∧ wx=w6)
  case first =>
    by_cases h2:d < 2
    · have zi:(d:Int) < 2:=by omega
      go_wp2_with fail
      go_meet
      exact ⟨true,rfl,by simp,rfl⟩
    · have zi:¬ (d:Int) < 2:=by omega
      by_cases h12:12 < n0
      · have zj:(12:Int) < (n0:Int):=by omega
        go_wp2_with fail
        go_meet
        exact ⟨true,rfl,by simp,rfl⟩
      · have zj:¬ (12:Int) < (n0:Int):=by omega
        go_wp2_with fail
        go_meet
        exact ⟨false,rfl,(fun _ => by omega),rfl⟩
  case rest =>
    obtain ⟨b,rfl,hb2,rfl⟩:=hcut
    go_upto_if 35 with fail
    go_cut [8] from 36 to 38 (fun v wx => ∃ k:Nat,v=.int .i64 (k:Int) ∧ k < 8 ∧ (k < 2 → 2 ≤ d) ∧ KSt w wx db cb B n0 (.slice A1 n0 cap1) us (.slice A2 (n0+1) cap2) L2 us2 ∧ KT w wx B tb (.slice A2 (n0+1) cap2) L2 us2 t6 (.slice none 0 0))
    case first =>
      cases b
      · go_wp2_with fail
        go_meet
        exact ⟨r8,rfl,hr8,(fun _ => hb2 (by first | rfl | trivial)),HK6.out,HT6.out⟩
      · go_wp2_with fail
        refine (k_Next db 6 _ HK6.out.dc (by omega) (by omega)).mono ?_
        rintro e w7 ⟨r6,hr6,rfl,hd7,hg7⟩
        have HK7:=Lib.hid (HK6.out.dice hd7 hg7 hdb hcb)
        have HT7:=Lib.hid (HT6.out.dice hg7 hdb hBw)
        clear hd7 hg7
        go_wp2_with fail
        go_meet
        exact ⟨2+r6,by go_num,by omega,(fun h => by omega),HK7.out,HT7.out⟩
    case rest =>
      obtain ⟨k,rfl,hk8,hkd,hK,hT⟩:=hcut
      have HKS:=Lib.hid hK
      have HT:=Lib.hid hT
      clear hK hT HK6 HT6 hb2
      have ht6:=HT0.out
      subst ht6
      have hbT:=HT.out.blk
      have x0:=(hbT.cell 0).trans (show _=some (Value.int .i64 0) from rfl)
      have x1:=(hbT.cell 1).trans (show _=some (Value.int .i64 (1+(r4:Int))) from rfl)
      have x2:=(hbT.cell 2).trans (show _=some (Value.int .i64 0) from rfl)
      have x3:=(hbT.cell 3).trans (show _=some (Value.string ⟨#[]⟩) from rfl)
      have x4:=(hbT.cell 4).trans (show _=some (Value.string ⟨#[]⟩) from rfl)
      have f0:=hbT.frozen 0
      have f1:=hbT.frozen 1
      have f2:=hbT.frozen 2
      have f3:=hbT.frozen 3
      have f4:=hbT.frozen 4
      clear hbT HT0
      by_cases hk2:k < 2
      · have h2d:=hkd hk2
        obtain ⟨d',rfl⟩:∃ d',d=d' + 1:=⟨d - 1,by omega⟩
        have hih:=HIH.out d' rfl (by omega)
        clear HIH
        have HIH:=Lib.hid hih
        obtain ⟨sd,hsd⟩:∃ sd,szK d'=sd:=⟨_,rfl⟩
        have hsd2:szK (d' + 1)=1+3*sd:=by rw [← hsd]; rfl
        have hlen2:=HLEN.out
        rw [hsd2] at hlen2
        have HSD:=Lib.hid hsd2
        have HSD0:=Lib.hid hsd
        unfold GrowC at HIH
        rw [hsd] at HIH
        clear hih hsd hsd2
        rcases (show k=0 ∨ k=1 by omega) with rfl | rfl
        · go_wp2_with fail
          have K0:=HKS.out.inT HT.out hdb hBw hcl 0 (.int .i64 1)
          have T0:=HT.out.set_ 0 (.int .i64 1) ⟨1,(1+(r4:Int)),0,E0,E0,[]⟩ rfl rfl
          have K1:=K0.inT T0 hdb hBw hcl 1 (.int .i64 0)
          have T1:=T0.set_ 1 (.int .i64 0) ⟨1,0,0,E0,E0,[]⟩ rfl rfl
          have HK1:=Lib.hid K1
          have HT1:=Lib.hid T1
          clear K0 T0 K1 T1 x0 x1 x2 x3 x4 f0 f1 f2 f3 f4
          refine (k_Next db 2 _ HK1.out.dc (by omega) (by omega)).mono ?_
          rintro e w8 ⟨r2,hr2,rfl,hd8,hg8⟩
          have HK8:=Lib.hid (HK1.out.dice hd8 hg8 hdb hcb)
          have HT8:=Lib.hid (HT1.out.dice hg8 hdb hBw)
          clear hd8 hg8 HK1 HT1 HKS HT
          go_wp2_with fail
          go_loopw [52] (fun v52 wr => ∃ (j nl:Nat) (Av:Option Addr) (cv:Nat) (Lr:List Trm) (usr:Nat → Value) (ar:List Int) (Au:Option Addr) (cu:Nat),v52=.int .i64 (j:Int) ∧ j ≤ 2+r2 ∧ Lr.length=nl ∧ KSt w wr db cb B n0 (.slice A1 n0 cap1) us (.slice Av nl cv) Lr usr ∧ KT w wr B tb (.slice Av nl cv) Lr usr ⟨1,0,0,E0,E0,ar⟩ (.slice Au j cu) ∧ ar.length=j ∧ nl ≤ n0+1+j*sd) (fun v52 _ => (2+r2) - (intOf v52).toNat)
          case atStart => exact ⟨0,n0+1,A2,cap2,L2,us2,[],none,0,rfl,by omega,HL2.out,HK8.out,HT8.out,rfl,by omega⟩
          case round =>
            obtain ⟨j,nl,Av,cv,Lr,usr,ar,Au,cu,rfl,hj2,hnl,hK,hT,har,hbd⟩:=hrel
            have hjs:j*sd ≤ 3*sd:=Nat.mul_le_mul_right sd (by omega)
            have hnl9:nl ≤ 1000:=by omega
            have hnln:n0 < nl:=by have:=hK.len; omega
            by_cases hlt:j < 2+r2
            · have hjs2:j*sd ≤ 2*sd:=Nat.mul_le_mul_right sd (by omega)
              have hnl8:nl+sd ≤ 1000:=by omega
              have yc:=(hK.blk.cell 0).trans (show _=some (Value.slice Av nl cv) from rfl)
              have y5:=(hT.blk.cell 5).trans (show _=some (Value.slice Au j cu) from rfl)
              have y5a:∀ o:Obj,(wr.alloc o).cell? ⟨tb,5,none⟩=some (.slice Au j cu):=fun o => (World.cell?_alloc_lt wr o ⟨tb,5,none⟩ hT.blk.lt).trans y5
              have htbl:=hT.blk.lt
              have hargs:=hT.arg
              simp only [har] at hargs
              have hBr:B ≤ wr.heap.size:=by have:=hK.chg.size; omega
              have hne5:some tb ≠ (Value.slice Au j cu).ownBlock:=fun e => own_not hT.arg hT.blk (by decide) tb e.symm rfl
              have z2:(j:Int) < 2+(r2:Int):=by omega
              have HK9:=Lib.hid hK
              have HT9:=Lib.hid hT
              have HNL:=Lib.hid hnl
              have HAR:=Lib.hid har
              have HARG:=Lib.hid hargs
              have HBD:=Lib.hid hbd
              have HJS:=Lib.hid hjs
              clear hK hT hnl har hargs hbd hjs hjs2 HK8 HT8
              go_wp2_with fail
              go_region_law (first
                | (refine step_append_lies _ (by rfl) _ _ _ (by rfl) B 3 j0 _ 1 8 Tryz.underlying22 hj hy0 hy1 hy2 rfl (by omega) _ j _ (by rfl) (World.ownsRow.drew (HARG.out.alloc _)) ⟨wr.heap.size,0,none⟩ 1 1 [.int .i64 (nl:Int)] (by rfl) (by rfl) (by exact cell_one_new _ _ _) (ints_oneCell .i64 [_]) (by omega) (by simp only [maxLen]; omega) (by omega) (by simp; omega) (wr.heap.size+1) (by first | rfl | simp) ?_; intro gg cap4 w4 hown4 hgrow4' hat4 hlt4; have hgrow4:(wr.alloc (.cells #[.int .i64 (nl:Int)] 3)).grownBy w4 (Value.slice Au j cu).ownBlock:=⟨hgrow4'.os,hgrow4'.tape,hgrow4'.output,hgrow4'.size,hgrow4'.block⟩; clear hgrow4'; have hb4:Blk w4 tb 75 _:=(HT9.out.blk.alloc _).grown' hgrow4 hne5; have c4:=(hb4.cell 5).trans (show _=some (Value.slice Au j cu) from rfl); have f4:=hb4.frozen 5))
              all_goals
                have hP:=HT9.out.push (m:=(nl:Int)) HK9.out hdb hBw hcl (by rw [show (⟨1,0,0,E0,E0,ar⟩:Trm).args.length=j from HAR.out]; exact hown4) hgrow4 (by
                  rcases hat4 with e | e
                  · exact .inl e.symm
                  · exact .inr fun g hg => by
                      have e2:gg=wr.heap.size+1:=e
                      have e3:some gg=some g:=hg
                      injection e3 with e3
                      omega)
                have HP1:=Lib.hid hP.1
                have HP2:=Lib.hid hP.2
                clear hP hown4 hgrow4 hat4 hb4 c4 f4 yc y5 y5a hne5 HARG HK9 HT9
                go_wp2_with fail
                refine (HIH.out _ db cb B _ Lr usr HP1.out.dc hdb hcb HP1.out.blk HP1.out.own HP1.out.kit (by rw [HNL.out]; exact hnl8)).mono ?_
                rintro e w5 ⟨rfl,v5,L5,us5,hk5,hl5⟩
                rw [HNL.out] at hl5
                obtain ⟨A5,c5,rfl⟩:=own_slice hk5.own.row
                have hW:=HP1.out.within HP2.out hk5 hdb hBw hcl
                have HW1:=Lib.hid hW.1
                have HW2:=Lib.hid hW.2
                have HL5:=Lib.hid hl5
                clear hW hk5 hl5 HP1 HP2
                go_wp2_with fail
                go_roundw
                case measure => simp [intOf]; omega
                case rel =>
                  refine ⟨j+1,L5.length,A5,c5,L5,us5,ar ++ [(nl:Int)],some ⟨gg,0,none⟩,cap4,by go_num,by omega,rfl,HW1.out,HW2.out,?_,?_⟩
                  · rw [List.length_append,HAR.out]; rfl
                  · have:=HL5.out
                    have:=HSD0.out
                    have:=HBD.out
                    rw [Nat.succ_mul]; omega
            · have hjk:j=2+r2:=by omega
              have z2:¬ (j:Int) < 2+(r2:Int):=by omega
              have HLr:=Lib.hid hnl
              have HAR:=Lib.hid har
              have HBD:=Lib.hid hbd
              have HJS:=Lib.hid hjs
              have HK9:=Lib.hid hK
              have HT9:=Lib.hid hT
              clear hnl har hbd hjs hK hT HK8 HT8
              subst hjk
              go_upto_region 26 with fail
              have K':=HK9.out
              have T':=HT9.out
              have hkit:KitT ⟨1,0,0,E0,E0,ar⟩:=kit_args 1 ar (by rw [HAR.out]; omega)
              clear HK9 HT9
              obtain ⟨wz,hwz⟩:∃ wz,wr=wz:=⟨_,rfl⟩
              rw [hwz] at K' T' ⊢
              clear hwz
              obtain ⟨g,gc,hA,-,-⟩:=World.ownsRow.form (n:=nl) (by have:=K'.own.row; rwa [HLr.out] at this) (by omega)
              injection hA with hA1 _ hA2
              subst hA1
              subst hA2
              have hrw:wz.ownsRow B 75 6 (.slice (some ⟨g,0,none⟩) (nl) cv) (nl) (tmsC Lr usr):=by have:=K'.own.row; rwa [HLr.out] at this
              obtain ⟨a0,a1,a2,a3,a4,a5,h0,h1,h2,h3,h4,h5⟩:=put6_facts (k:=n0) hrw (by rw [tmsC_len,HLr.out]; omega) (.int .i64 1) (.int .i64 0) (.int .i64 0) (.string E0) (.string E0)
              have q0:=own_frozen hrw (n0*6)
              have q1:=own_frozen hrw (n0*6+1)
              have q2:=own_frozen hrw (n0*6+2)
              have q3:=own_frozen hrw (n0*6+3)
              have q4:=own_frozen hrw (n0*6+4)
              have q5:=own_frozen hrw (n0*6+5)
              have y0:=(T'.blk.cell 0).trans (show _=some (Value.int .i64 1) from rfl)
              have y1:=(T'.blk.cell 1).trans (show _=some (Value.int .i64 0) from rfl)
              have y2:=(T'.blk.cell 2).trans (show _=some (Value.int .i64 0) from rfl)
              have y3:=(T'.blk.cell 3).trans (show _=some (Value.string E0) from rfl)
              have y4:=(T'.blk.cell 4).trans (show _=some (Value.string E0) from rfl)
              have y5:=(T'.blk.cell 5).trans (show _=some ((.slice Au (2+r2) cu):Value) from rfl)
              have yc:=(K'.blk.cell 0).trans (show _=some (Value.slice (some ⟨g,0,none⟩) (nl) cv) from rfl)
              have zi:(n0:Int) < ((nl:Nat):Int):=by omega
              have KP:=Lib.hid (KSt.put (cap:=cv) (g:=g) (t:=⟨1,0,0,E0,E0,ar⟩) (u:=(.slice Au (2+r2) cu)) (by rw [HLr.out]; exact K') (by rw [HLr.out]; exact T') hkit hdb hcb)
              clear K' T' hrw hkit
              try clear x0 x1 x2 x3 x4 f0 f1 f2 f3 f4
              go_wp2_with fail
              go_region
              all_goals
                go_wp2_with fail
                go_end0
                refine ⟨rfl,_,_,_,(by rw [HN0.out]; exact KP.out.drew),?_⟩
                (rw [List.length_set,HLr.out,HN0.out,HSD.out]; have:=HBD.out; have:=HJS.out; omega)
        · go_wp2_with fail
          have K0:=HKS.out.inT HT.out hdb hBw hcl 0 (.int .i64 2)
          have T0:=HT.out.set_ 0 (.int .i64 2) ⟨2,(1+(r4:Int)),0,E0,E0,[]⟩ rfl rfl
          have K1:=K0.inT T0 hdb hBw hcl 1 (.int .i64 0)
          have T1:=T0.set_ 1 (.int .i64 0) ⟨2,0,0,E0,E0,[]⟩ rfl rfl
          have HK1:=Lib.hid K1
          have HT1:=Lib.hid T1
          clear K0 T0 K1 T1 x0 x1 x2 x3 x4 f0 f1 f2 f3 f4
          refine (k_Next db 2 _ HK1.out.dc (by omega) (by omega)).mono ?_
          rintro e w8 ⟨r2,hr2,rfl,hd8,hg8⟩
          have HK8:=Lib.hid (HK1.out.dice hd8 hg8 hdb hcb)
          have HT8:=Lib.hid (HT1.out.dice hg8 hdb hBw)
          clear hd8 hg8 HK1 HT1 HKS HT
          go_wp2_with fail
          go_loopw [52] (fun v52 wr => ∃ (j nl:Nat) (Av:Option Addr) (cv:Nat) (Lr:List Trm) (usr:Nat → Value) (ar:List Int) (Au:Option Addr) (cu:Nat),v52=.int .i64 (j:Int) ∧ j ≤ 2+r2 ∧ Lr.length=nl ∧ KSt w wr db cb B n0 (.slice A1 n0 cap1) us (.slice Av nl cv) Lr usr ∧ KT w wr B tb (.slice Av nl cv) Lr usr ⟨2,0,0,E0,E0,ar⟩ (.slice Au j cu) ∧ ar.length=j ∧ nl ≤ n0+1+j*sd) (fun v52 _ => (2+r2) - (intOf v52).toNat)
          case atStart => exact ⟨0,n0+1,A2,cap2,L2,us2,[],none,0,rfl,by omega,HL2.out,HK8.out,HT8.out,rfl,by omega⟩
          case round =>
            obtain ⟨j,nl,Av,cv,Lr,usr,ar,Au,cu,rfl,hj2,hnl,hK,hT,har,hbd⟩:=hrel
            have hjs:j*sd ≤ 3*sd:=Nat.mul_le_mul_right sd (by omega)
            have hnl9:nl ≤ 1000:=by omega
            have hnln:n0 < nl:=by have:=hK.len; omega
            by_cases hlt:j < 2+r2
            · have hjs2:j*sd ≤ 2*sd:=Nat.mul_le_mul_right sd (by omega)
              have hnl8:nl+sd ≤ 1000:=by omega
              have yc:=(hK.blk.cell 0).trans (show _=some (Value.slice Av nl cv) from rfl)
              have y5:=(hT.blk.cell 5).trans (show _=some (Value.slice Au j cu) from rfl)
              have y5a:∀ o:Obj,(wr.alloc o).cell? ⟨tb,5,none⟩=some (.slice Au j cu):=fun o => (World.cell?_alloc_lt wr o ⟨tb,5,none⟩ hT.blk.lt).trans y5
              have htbl:=hT.blk.lt
              have hargs:=hT.arg
              simp only [har] at hargs
              have hBr:B ≤ wr.heap.size:=by have:=hK.chg.size; omega
              have hne5:some tb ≠ (Value.slice Au j cu).ownBlock:=fun e => own_not hT.arg hT.blk (by decide) tb e.symm rfl
              have z2:(j:Int) < 2+(r2:Int):=by omega
              have HK9:=Lib.hid hK
              have HT9:=Lib.hid hT
              have HNL:=Lib.hid hnl
              have HAR:=Lib.hid har
              have HARG:=Lib.hid hargs
              have HBD:=Lib.hid hbd
              have HJS:=Lib.hid hjs
              clear hK hT hnl har hargs hbd hjs hjs2 HK8 HT8
              go_wp2_with fail
              go_region_law (first
                | (refine step_append_lies _ (by rfl) _ _ _ (by rfl) B 3 j0 _ 1 8 Tryz.underlying22 hj hy0 hy1 hy2 rfl (by omega) _ j _ (by rfl) (World.ownsRow.drew (HARG.out.alloc _)) ⟨wr.heap.size,0,none⟩ 1 1 [.int .i64 (nl:Int)] (by rfl) (by rfl) (by exact cell_one_new _ _ _) (ints_oneCell .i64 [_]) (by omega) (by simp only [maxLen]; omega) (by omega) (by simp; omega) (wr.heap.size+1) (by first | rfl | simp) ?_; intro gg cap4 w4 hown4 hgrow4' hat4 hlt4; have hgrow4:(wr.alloc (.cells #[.int .i64 (nl:Int)] 3)).grownBy w4 (Value.slice Au j cu).ownBlock:=⟨hgrow4'.os,hgrow4'.tape,hgrow4'.output,hgrow4'.size,hgrow4'.block⟩; clear hgrow4'; have hb4:Blk w4 tb 75 _:=(HT9.out.blk.alloc _).grown' hgrow4 hne5; have c4:=(hb4.cell 5).trans (show _=some (Value.slice Au j cu) from rfl); have f4:=hb4.frozen 5))
              all_goals
                have hP:=HT9.out.push (m:=(nl:Int)) HK9.out hdb hBw hcl (by rw [show (⟨2,0,0,E0,E0,ar⟩:Trm).args.length=j from HAR.out]; exact hown4) hgrow4 (by
                  rcases hat4 with e | e
                  · exact .inl e.symm
                  · exact .inr fun g hg => by
                      have e2:gg=wr.heap.size+1:=e
                      have e3:some gg=some g:=hg
                      injection e3 with e3
                      omega)
                have HP1:=Lib.hid hP.1
                have HP2:=Lib.hid hP.2
                clear hP hown4 hgrow4 hat4 hb4 c4 f4 yc y5 y5a hne5 HARG HK9 HT9
                go_wp2_with fail
                refine (HIH.out _ db cb B _ Lr usr HP1.out.dc hdb hcb HP1.out.blk HP1.out.own HP1.out.kit (by rw [HNL.out]; exact hnl8)).mono ?_
                rintro e w5 ⟨rfl,v5,L5,us5,hk5,hl5⟩
                rw [HNL.out] at hl5
                obtain ⟨A5,c5,rfl⟩:=own_slice hk5.own.row
                have hW:=HP1.out.within HP2.out hk5 hdb hBw hcl
                have HW1:=Lib.hid hW.1
                have HW2:=Lib.hid hW.2
                have HL5:=Lib.hid hl5
                clear hW hk5 hl5 HP1 HP2
                go_wp2_with fail
                go_roundw
                case measure => simp [intOf]; omega
                case rel =>
                  refine ⟨j+1,L5.length,A5,c5,L5,us5,ar ++ [(nl:Int)],some ⟨gg,0,none⟩,cap4,by go_num,by omega,rfl,HW1.out,HW2.out,?_,?_⟩
                  · rw [List.length_append,HAR.out]; rfl
                  · have:=HL5.out
                    have:=HSD0.out
                    have:=HBD.out
                    rw [Nat.succ_mul]; omega
            · have hjk:j=2+r2:=by omega
              have z2:¬ (j:Int) < 2+(r2:Int):=by omega
              have HLr:=Lib.hid hnl
              have HAR:=Lib.hid har
              have HBD:=Lib.hid hbd
              have HJS:=Lib.hid hjs
              have HK9:=Lib.hid hK
              have HT9:=Lib.hid hT
              clear hnl har hbd hjs hK hT HK8 HT8
              subst hjk
              go_upto_region 26 with fail
              have K':=HK9.out
              have T':=HT9.out
              have hkit:KitT ⟨2,0,0,E0,E0,ar⟩:=kit_args 2 ar (by rw [HAR.out]; omega)
              clear HK9 HT9
              obtain ⟨wz,hwz⟩:∃ wz,wr=wz:=⟨_,rfl⟩
              rw [hwz] at K' T' ⊢
              clear hwz
              obtain ⟨g,gc,hA,-,-⟩:=World.ownsRow.form (n:=nl) (by have:=K'.own.row; rwa [HLr.out] at this) (by omega)
              injection hA with hA1 _ hA2
              subst hA1
              subst hA2
              have hrw:wz.ownsRow B 75 6 (.slice (some ⟨g,0,none⟩) (nl) cv) (nl) (tmsC Lr usr):=by have:=K'.own.row; rwa [HLr.out] at this
              obtain ⟨a0,a1,a2,a3,a4,a5,h0,h1,h2,h3,h4,h5⟩:=put6_facts (k:=n0) hrw (by rw [tmsC_len,HLr.out]; omega) (.int .i64 2) (.int .i64 0) (.int .i64 0) (.string E0) (.string E0)
              have q0:=own_frozen hrw (n0*6)
              have q1:=own_frozen hrw (n0*6+1)
              have q2:=own_frozen hrw (n0*6+2)
              have q3:=own_frozen hrw (n0*6+3)
              have q4:=own_frozen hrw (n0*6+4)
              have q5:=own_frozen hrw (n0*6+5)
              have y0:=(T'.blk.cell 0).trans (show _=some (Value.int .i64 2) from rfl)
              have y1:=(T'.blk.cell 1).trans (show _=some (Value.int .i64 0) from rfl)
              have y2:=(T'.blk.cell 2).trans (show _=some (Value.int .i64 0) from rfl)
              have y3:=(T'.blk.cell 3).trans (show _=some (Value.string E0) from rfl)
              have y4:=(T'.blk.cell 4).trans (show _=some (Value.string E0) from rfl)
              have y5:=(T'.blk.cell 5).trans (show _=some ((.slice Au (2+r2) cu):Value) from rfl)
              have yc:=(K'.blk.cell 0).trans (show _=some (Value.slice (some ⟨g,0,none⟩) (nl) cv) from rfl)
              have zi:(n0:Int) < ((nl:Nat):Int):=by omega
              have KP:=Lib.hid (KSt.put (cap:=cv) (g:=g) (t:=⟨2,0,0,E0,E0,ar⟩) (u:=(.slice Au (2+r2) cu)) (by rw [HLr.out]; exact K') (by rw [HLr.out]; exact T') hkit hdb hcb)
              clear K' T' hrw hkit
              try clear x0 x1 x2 x3 x4 f0 f1 f2 f3 f4
              go_wp2_with fail
              go_region
              all_goals
                go_wp2_with fail
                go_end0
                refine ⟨rfl,_,_,_,(by rw [HN0.out]; exact KP.out.drew),?_⟩
                (rw [List.length_set,HLr.out,HN0.out,HSD.out]; have:=HBD.out; have:=HJS.out; omega)
      · rcases (show k=2 ∨ k=3 ∨ k=4 ∨ k=5 ∨ k=6 ∨ k=7 by omega) with rfl | rfl | rfl | rfl | rfl | rfl
        · go_upto_region 26 with fail
          have K0:=HKS.out.inT HT.out hdb hBw hcl 0 (.int .i64 3)
          have T0:=HT.out.set_ 0 (.int .i64 3) ⟨3,(1+(r4:Int)),0,E0,E0,[]⟩ rfl rfl
          have K':=K0
          have T':=T0
          clear K0 T0
          have hkit:=kit_leaf 3 (1+(r4:Int)) 0
          obtain ⟨wz,hwz⟩:∃ wz,(wc).setCell ⟨tb,0,none⟩ (.int .i64 3)=wz:=⟨_,rfl⟩
          rw [hwz] at K' T' ⊢
          clear hwz
          obtain ⟨g,gc,hA,-,-⟩:=World.ownsRow.form (n:=n0+1) (by have:=K'.own.row; rwa [HL2.out] at this) (by omega)
          injection hA with hA1 _ hA2
          subst hA1
          subst hA2
          have hrw:wz.ownsRow B 75 6 (.slice (some ⟨g,0,none⟩) (n0+1) cap2) (n0+1) (tmsC L2 us2):=by have:=K'.own.row; rwa [HL2.out] at this
          obtain ⟨a0,a1,a2,a3,a4,a5,h0,h1,h2,h3,h4,h5⟩:=put6_facts (k:=n0) hrw (by rw [tmsC_len,HL2.out]; omega) (.int .i64 3) (.int .i64 (1+(r4:Int))) (.int .i64 0) (.string E0) (.string E0)
          have q0:=own_frozen hrw (n0*6)
          have q1:=own_frozen hrw (n0*6+1)
          have q2:=own_frozen hrw (n0*6+2)
          have q3:=own_frozen hrw (n0*6+3)
          have q4:=own_frozen hrw (n0*6+4)
          have q5:=own_frozen hrw (n0*6+5)
          have y0:=(T'.blk.cell 0).trans (show _=some (Value.int .i64 3) from rfl)
          have y1:=(T'.blk.cell 1).trans (show _=some (Value.int .i64 (1+(r4:Int))) from rfl)
          have y2:=(T'.blk.cell 2).trans (show _=some (Value.int .i64 0) from rfl)
          have y3:=(T'.blk.cell 3).trans (show _=some (Value.string E0) from rfl)
          have y4:=(T'.blk.cell 4).trans (show _=some (Value.string E0) from rfl)
          have y5:=(T'.blk.cell 5).trans (show _=some ((.slice none 0 0):Value) from rfl)
          have yc:=(K'.blk.cell 0).trans (show _=some (Value.slice (some ⟨g,0,none⟩) (n0+1) cap2) from rfl)
          have zi:(n0:Int) < ((n0+1:Nat):Int):=by omega
          have KP:=Lib.hid (KSt.put (cap:=cap2) (g:=g) (t:=⟨3,(1+(r4:Int)),0,E0,E0,[]⟩) (u:=(.slice none 0 0)) (by rw [HL2.out]; exact K') (by rw [HL2.out]; exact T') hkit hdb hcb)
          clear K' T' hrw hkit
          try clear x0 x1 x2 x3 x4 f0 f1 f2 f3 f4
          go_wp2_with fail
          go_region
          all_goals
            go_wp2_with fail
            go_end0
            refine ⟨rfl,_,_,_,(by rw [HN0.out]; exact KP.out.drew),?_⟩
            (rw [List.length_set,HL2.out,HN0.out]; have:=HSZ.out; omega)
        · go_upto_region 26 with fail
          have K0:=HKS.out.inT HT.out hdb hBw hcl 0 (.int .i64 4)
          have T0:=HT.out.set_ 0 (.int .i64 4) ⟨4,(1+(r4:Int)),0,E0,E0,[]⟩ rfl rfl
          have K':=K0
          have T':=T0
          clear K0 T0
          have hkit:=kit_leaf 4 (1+(r4:Int)) 0
          obtain ⟨wz,hwz⟩:∃ wz,(wc).setCell ⟨tb,0,none⟩ (.int .i64 4)=wz:=⟨_,rfl⟩
          rw [hwz] at K' T' ⊢
          clear hwz
          obtain ⟨g,gc,hA,-,-⟩:=World.ownsRow.form (n:=n0+1) (by have:=K'.own.row; rwa [HL2.out] at this) (by omega)
          injection hA with hA1 _ hA2
          subst hA1
          subst hA2
          have hrw:wz.ownsRow B 75 6 (.slice (some ⟨g,0,none⟩) (n0+1) cap2) (n0+1) (tmsC L2 us2):=by have:=K'.own.row; rwa [HL2.out] at this
          obtain ⟨a0,a1,a2,a3,a4,a5,h0,h1,h2,h3,h4,h5⟩:=put6_facts (k:=n0) hrw (by rw [tmsC_len,HL2.out]; omega) (.int .i64 4) (.int .i64 (1+(r4:Int))) (.int .i64 0) (.string E0) (.string E0)
          have q0:=own_frozen hrw (n0*6)
          have q1:=own_frozen hrw (n0*6+1)
          have q2:=own_frozen hrw (n0*6+2)
          have q3:=own_frozen hrw (n0*6+3)
          have q4:=own_frozen hrw (n0*6+4)
          have q5:=own_frozen hrw (n0*6+5)
          have y0:=(T'.blk.cell 0).trans (show _=some (Value.int .i64 4) from rfl)
          have y1:=(T'.blk.cell 1).trans (show _=some (Value.int .i64 (1+(r4:Int))) from rfl)
          have y2:=(T'.blk.cell 2).trans (show _=some (Value.int .i64 0) from rfl)
          have y3:=(T'.blk.cell 3).trans (show _=some (Value.string E0) from rfl)
          have y4:=(T'.blk.cell 4).trans (show _=some (Value.string E0) from rfl)
          have y5:=(T'.blk.cell 5).trans (show _=some ((.slice none 0 0):Value) from rfl)
          have yc:=(K'.blk.cell 0).trans (show _=some (Value.slice (some ⟨g,0,none⟩) (n0+1) cap2) from rfl)
          have zi:(n0:Int) < ((n0+1:Nat):Int):=by omega
          have KP:=Lib.hid (KSt.put (cap:=cap2) (g:=g) (t:=⟨4,(1+(r4:Int)),0,E0,E0,[]⟩) (u:=(.slice none 0 0)) (by rw [HL2.out]; exact K') (by rw [HL2.out]; exact T') hkit hdb hcb)
          clear K' T' hrw hkit
          try clear x0 x1 x2 x3 x4 f0 f1 f2 f3 f4
          go_wp2_with fail
          go_region
          all_goals
            go_wp2_with fail
            go_end0
            refine ⟨rfl,_,_,_,(by rw [HN0.out]; exact KP.out.drew),?_⟩
            (rw [List.length_set,HL2.out,HN0.out]; have:=HSZ.out; omega)
        · go_upto_region 26 with fail
          refine (k_Next db 4 _ HKS.out.dc (by omega) (by omega)).mono ?_
          rintro e w7 ⟨ry,hry,rfl,hd7,hg7⟩
          have HK7:=Lib.hid (HKS.out.dice hd7 hg7 hdb hcb)
          have HT7:=Lib.hid (HT.out.dice hg7 hdb hBw)
          have hbT:=HT7.out.blk
          have c0:=(hbT.cell 0).trans (show _=some (Value.int .i64 0) from rfl)
          have c2:=(hbT.cell 2).trans (show _=some (Value.int .i64 0) from rfl)
          have p0:=hbT.frozen 0
          have p2:=hbT.frozen 2
          clear hd7 hg7 hbT x0 x1 x2 x3 x4 f0 f1 f2 f3 f4
          go_upto_region 26 with fail
          have K0:=HK7.out.inT HT7.out hdb hBw hcl 0 (.int .i64 5)
          have T0:=HT7.out.set_ 0 (.int .i64 5) ⟨5,(1+(r4:Int)),0,E0,E0,[]⟩ rfl rfl
          have K1:=K0.inT T0 hdb hBw hcl 2 (.int .i64 (ry:Int))
          have T1:=T0.set_ 2 (.int .i64 (ry:Int)) ⟨5,(1+(r4:Int)),(ry:Int),E0,E0,[]⟩ rfl rfl
          have K':=K1
          have T':=T1
          clear K0 T0 K1 T1
          clear c0 c2 p0 p2
          have hkit:=kit_leaf 5 (1+(r4:Int)) (ry:Int)
          obtain ⟨wz,hwz⟩:∃ wz,((w7).setCell ⟨tb,0,none⟩ (.int .i64 5)).setCell ⟨tb,2,none⟩ (.int .i64 (ry:Int))=wz:=⟨_,rfl⟩
          rw [hwz] at K' T' ⊢
          clear hwz
          obtain ⟨g,gc,hA,-,-⟩:=World.ownsRow.form (n:=n0+1) (by have:=K'.own.row; rwa [HL2.out] at this) (by omega)
          injection hA with hA1 _ hA2
          subst hA1
          subst hA2
          have hrw:wz.ownsRow B 75 6 (.slice (some ⟨g,0,none⟩) (n0+1) cap2) (n0+1) (tmsC L2 us2):=by have:=K'.own.row; rwa [HL2.out] at this
          obtain ⟨a0,a1,a2,a3,a4,a5,h0,h1,h2,h3,h4,h5⟩:=put6_facts (k:=n0) hrw (by rw [tmsC_len,HL2.out]; omega) (.int .i64 5) (.int .i64 (1+(r4:Int))) (.int .i64 (ry:Int)) (.string E0) (.string E0)
          have q0:=own_frozen hrw (n0*6)
          have q1:=own_frozen hrw (n0*6+1)
          have q2:=own_frozen hrw (n0*6+2)
          have q3:=own_frozen hrw (n0*6+3)
          have q4:=own_frozen hrw (n0*6+4)
          have q5:=own_frozen hrw (n0*6+5)
          have y0:=(T'.blk.cell 0).trans (show _=some (Value.int .i64 5) from rfl)
          have y1:=(T'.blk.cell 1).trans (show _=some (Value.int .i64 (1+(r4:Int))) from rfl)
          have y2:=(T'.blk.cell 2).trans (show _=some (Value.int .i64 (ry:Int)) from rfl)
          have y3:=(T'.blk.cell 3).trans (show _=some (Value.string E0) from rfl)
          have y4:=(T'.blk.cell 4).trans (show _=some (Value.string E0) from rfl)
          have y5:=(T'.blk.cell 5).trans (show _=some ((.slice none 0 0):Value) from rfl)
          have yc:=(K'.blk.cell 0).trans (show _=some (Value.slice (some ⟨g,0,none⟩) (n0+1) cap2) from rfl)
          have zi:(n0:Int) < ((n0+1:Nat):Int):=by omega
          have KP:=Lib.hid (KSt.put (cap:=cap2) (g:=g) (t:=⟨5,(1+(r4:Int)),(ry:Int),E0,E0,[]⟩) (u:=(.slice none 0 0)) (by rw [HL2.out]; exact K') (by rw [HL2.out]; exact T') hkit hdb hcb)
          clear K' T' hrw hkit
          try clear x0 x1 x2 x3 x4 f0 f1 f2 f3 f4
          go_wp2_with fail
          go_region
          all_goals
            go_wp2_with fail
            go_end0
            refine ⟨rfl,_,_,_,(by rw [HN0.out]; exact KP.out.drew),?_⟩
            (rw [List.length_set,HL2.out,HN0.out]; have:=HSZ.out; omega)
        · go_upto_region 26 with fail
          refine (k_WordK db wc.heap.size 0 3 3 kitW _ (HKS.out.dc.alloc _) (by simp) (by have:=HKS.out.dc.lt; omega) (by omega) (by omega) ?_).mono ?_
          · intro i hi
            match i,hi with
            | 0,_ | 1,_ | 2,_ => exact World.cell?_alloc_new wc _ _ _
          rintro e w7 ⟨rw7,hrw7,rfl,hd7,hg7⟩
          have HK7:=Lib.hid ((HKS.out.alloc _).dice hd7 hg7 hdb hcb)
          have HT7:=Lib.hid ((HT.out.alloc _).dice hg7 hdb hBw)
          have hbT:=HT7.out.blk
          have c0:=(hbT.cell 0).trans (show _=some (Value.int .i64 0) from rfl)
          have c3:=(hbT.cell 3).trans (show _=some (Value.string ⟨#[]⟩) from rfl)
          have c4:=(hbT.cell 4).trans (show _=some (Value.string ⟨#[]⟩) from rfl)
          have p0:=hbT.frozen 0
          have p3:=hbT.frozen 3
          have p4:=hbT.frozen 4
          clear hd7 hg7 hbT x0 x1 x2 x3 x4 f0 f1 f2 f3 f4
          go_upto_region 26 with fail
          have K0:=HK7.out.inT HT7.out hdb hBw hcl 0 (.int .i64 7)
          have T0:=HT7.out.set_ 0 (.int .i64 7) ⟨7,(1+(r4:Int)),0,E0,E0,[]⟩ rfl rfl
          have K1:=K0.inT T0 hdb hBw hcl 3 (.string ⟨#[107,105,110,100]⟩)
          have T1:=T0.set_ 3 (.string ⟨#[107,105,110,100]⟩) ⟨7,(1+(r4:Int)),0,⟨#[107,105,110,100]⟩,E0,[]⟩ rfl rfl
          have K2:=K1.inT T1 hdb hBw hcl 4 (.string (kitW rw7))
          have T2:=T1.set_ 4 (.string (kitW rw7)) ⟨7,(1+(r4:Int)),0,⟨#[107,105,110,100]⟩,kitW rw7,[]⟩ rfl rfl
          have K':=K2
          have T':=T2
          clear K0 T0 K1 T1 K2 T2
          clear c0 c3 c4 p0 p3 p4
          have hkit:=kit_choice (1+(r4:Int)) rw7 hrw7
          obtain ⟨wz,hwz⟩:∃ wz,(((w7).setCell ⟨tb,0,none⟩ (.int .i64 7)).setCell ⟨tb,3,none⟩ (.string ⟨#[107,105,110,100]⟩)).setCell ⟨tb,4,none⟩ (.string (kitW rw7))=wz:=⟨_,rfl⟩
          rw [hwz] at K' T' ⊢
          clear hwz
          obtain ⟨g,gc,hA,-,-⟩:=World.ownsRow.form (n:=n0+1) (by have:=K'.own.row; rwa [HL2.out] at this) (by omega)
          injection hA with hA1 _ hA2
          subst hA1
          subst hA2
          have hrw:wz.ownsRow B 75 6 (.slice (some ⟨g,0,none⟩) (n0+1) cap2) (n0+1) (tmsC L2 us2):=by have:=K'.own.row; rwa [HL2.out] at this
          obtain ⟨a0,a1,a2,a3,a4,a5,h0,h1,h2,h3,h4,h5⟩:=put6_facts (k:=n0) hrw (by rw [tmsC_len,HL2.out]; omega) (.int .i64 7) (.int .i64 (1+(r4:Int))) (.int .i64 0) (.string ⟨#[107,105,110,100]⟩) (.string (kitW rw7))
          have q0:=own_frozen hrw (n0*6)
          have q1:=own_frozen hrw (n0*6+1)
          have q2:=own_frozen hrw (n0*6+2)
          have q3:=own_frozen hrw (n0*6+3)
          have q4:=own_frozen hrw (n0*6+4)
          have q5:=own_frozen hrw (n0*6+5)
          have y0:=(T'.blk.cell 0).trans (show _=some (Value.int .i64 7) from rfl)
          have y1:=(T'.blk.cell 1).trans (show _=some (Value.int .i64 (1+(r4:Int))) from rfl)
          have y2:=(T'.blk.cell 2).trans (show _=some (Value.int .i64 0) from rfl)
          have y3:=(T'.blk.cell 3).trans (show _=some (Value.string ⟨#[107,105,110,100]⟩) from rfl)
          have y4:=(T'.blk.cell 4).trans (show _=some (Value.string (kitW rw7)) from rfl)
          have y5:=(T'.blk.cell 5).trans (show _=some ((.slice none 0 0):Value) from rfl)
          have yc:=(K'.blk.cell 0).trans (show _=some (Value.slice (some ⟨g,0,none⟩) (n0+1) cap2) from rfl)
          have zi:(n0:Int) < ((n0+1:Nat):Int):=by omega
          have KP:=Lib.hid (KSt.put (cap:=cap2) (g:=g) (t:=⟨7,(1+(r4:Int)),0,⟨#[107,105,110,100]⟩,(kitW rw7),[]⟩) (u:=(.slice none 0 0)) (by rw [HL2.out]; exact K') (by rw [HL2.out]; exact T') hkit hdb hcb)
          clear K' T' hrw hkit
          try clear x0 x1 x2 x3 x4 f0 f1 f2 f3 f4
          go_wp2_with fail
          go_region
          all_goals
            go_wp2_with fail
            go_end0
            refine ⟨rfl,_,_,_,(by rw [HN0.out]; exact KP.out.drew),?_⟩
            (rw [List.length_set,HL2.out,HN0.out]; have:=HSZ.out; omega)
        · go_upto_region 26 with fail
          have K0:=HKS.out.inT HT.out hdb hBw hcl 0 (.int .i64 6)
          have T0:=HT.out.set_ 0 (.int .i64 6) ⟨6,(1+(r4:Int)),0,E0,E0,[]⟩ rfl rfl
          have K1:=K0.inT T0 hdb hBw hcl 1 (.int .i64 0)
          have T1:=T0.set_ 1 (.int .i64 0) ⟨6,0,0,E0,E0,[]⟩ rfl rfl
          have K':=K1
          have T':=T1
          clear K0 T0 K1 T1
          have hkit:=kit_leaf 6 0 0
          obtain ⟨wz,hwz⟩:∃ wz,((wc).setCell ⟨tb,0,none⟩ (.int .i64 6)).setCell ⟨tb,1,none⟩ (.int .i64 0)=wz:=⟨_,rfl⟩
          rw [hwz] at K' T' ⊢
          clear hwz
          obtain ⟨g,gc,hA,-,-⟩:=World.ownsRow.form (n:=n0+1) (by have:=K'.own.row; rwa [HL2.out] at this) (by omega)
          injection hA with hA1 _ hA2
          subst hA1
          subst hA2
          have hrw:wz.ownsRow B 75 6 (.slice (some ⟨g,0,none⟩) (n0+1) cap2) (n0+1) (tmsC L2 us2):=by have:=K'.own.row; rwa [HL2.out] at this
          obtain ⟨a0,a1,a2,a3,a4,a5,h0,h1,h2,h3,h4,h5⟩:=put6_facts (k:=n0) hrw (by rw [tmsC_len,HL2.out]; omega) (.int .i64 6) (.int .i64 0) (.int .i64 0) (.string E0) (.string E0)
          have q0:=own_frozen hrw (n0*6)
          have q1:=own_frozen hrw (n0*6+1)
          have q2:=own_frozen hrw (n0*6+2)
          have q3:=own_frozen hrw (n0*6+3)
          have q4:=own_frozen hrw (n0*6+4)
          have q5:=own_frozen hrw (n0*6+5)
          have y0:=(T'.blk.cell 0).trans (show _=some (Value.int .i64 6) from rfl)
          have y1:=(T'.blk.cell 1).trans (show _=some (Value.int .i64 0) from rfl)
          have y2:=(T'.blk.cell 2).trans (show _=some (Value.int .i64 0) from rfl)
          have y3:=(T'.blk.cell 3).trans (show _=some (Value.string E0) from rfl)
          have y4:=(T'.blk.cell 4).trans (show _=some (Value.string E0) from rfl)
          have y5:=(T'.blk.cell 5).trans (show _=some ((.slice none 0 0):Value) from rfl)
          have yc:=(K'.blk.cell 0).trans (show _=some (Value.slice (some ⟨g,0,none⟩) (n0+1) cap2) from rfl)
          have zi:(n0:Int) < ((n0+1:Nat):Int):=by omega
          have KP:=Lib.hid (KSt.put (cap:=cap2) (g:=g) (t:=⟨6,0,0,E0,E0,[]⟩) (u:=(.slice none 0 0)) (by rw [HL2.out]; exact K') (by rw [HL2.out]; exact T') hkit hdb hcb)
          clear K' T' hrw hkit
          try clear x0 x1 x2 x3 x4 f0 f1 f2 f3 f4
          go_wp2_with fail
          go_region
          all_goals
            go_wp2_with fail
            go_end0
            refine ⟨rfl,_,_,_,(by rw [HN0.out]; exact KP.out.drew),?_⟩
            (rw [List.length_set,HL2.out,HN0.out]; have:=HSZ.out; omega)
        · go_upto_region 26 with fail
          have K0:=HKS.out.inT HT.out hdb hBw hcl 0 (.int .i64 8)
          have T0:=HT.out.set_ 0 (.int .i64 8) ⟨8,(1+(r4:Int)),0,E0,E0,[]⟩ rfl rfl
          have K1:=K0.inT T0 hdb hBw hcl 1 (.int .i64 0)
          have T1:=T0.set_ 1 (.int .i64 0) ⟨8,0,0,E0,E0,[]⟩ rfl rfl
          have K':=K1
          have T':=T1
          clear K0 T0 K1 T1
          have hkit:=kit_leaf 8 0 0
          obtain ⟨wz,hwz⟩:∃ wz,((wc).setCell ⟨tb,0,none⟩ (.int .i64 8)).setCell ⟨tb,1,none⟩ (.int .i64 0)=wz:=⟨_,rfl⟩
          rw [hwz] at K' T' ⊢
          clear hwz
          obtain ⟨g,gc,hA,-,-⟩:=World.ownsRow.form (n:=n0+1) (by have:=K'.own.row; rwa [HL2.out] at this) (by omega)
          injection hA with hA1 _ hA2
          subst hA1
          subst hA2
          have hrw:wz.ownsRow B 75 6 (.slice (some ⟨g,0,none⟩) (n0+1) cap2) (n0+1) (tmsC L2 us2):=by have:=K'.own.row; rwa [HL2.out] at this
          obtain ⟨a0,a1,a2,a3,a4,a5,h0,h1,h2,h3,h4,h5⟩:=put6_facts (k:=n0) hrw (by rw [tmsC_len,HL2.out]; omega) (.int .i64 8) (.int .i64 0) (.int .i64 0) (.string E0) (.string E0)
          have q0:=own_frozen hrw (n0*6)
          have q1:=own_frozen hrw (n0*6+1)
          have q2:=own_frozen hrw (n0*6+2)
          have q3:=own_frozen hrw (n0*6+3)
          have q4:=own_frozen hrw (n0*6+4)
          have q5:=own_frozen hrw (n0*6+5)
          have y0:=(T'.blk.cell 0).trans (show _=some (Value.int .i64 8) from rfl)
          have y1:=(T'.blk.cell 1).trans (show _=some (Value.int .i64 0) from rfl)
          have y2:=(T'.blk.cell 2).trans (show _=some (Value.int .i64 0) from rfl)
          have y3:=(T'.blk.cell 3).trans (show _=some (Value.string E0) from rfl)
          have y4:=(T'.blk.cell 4).trans (show _=some (Value.string E0) from rfl)
          have y5:=(T'.blk.cell 5).trans (show _=some ((.slice none 0 0):Value) from rfl)
          have yc:=(K'.blk.cell 0).trans (show _=some (Value.slice (some ⟨g,0,none⟩) (n0+1) cap2) from rfl)
          have zi:(n0:Int) < ((n0+1:Nat):Int):=by omega
          have KP:=Lib.hid (KSt.put (cap:=cap2) (g:=g) (t:=⟨8,0,0,E0,E0,[]⟩) (u:=(.slice none 0 0)) (by rw [HL2.out]; exact K') (by rw [HL2.out]; exact T') hkit hdb hcb)
          clear K' T' hrw hkit
          try clear x0 x1 x2 x3 x4 f0 f1 f2 f3 f4
          go_wp2_with fail
          go_region
          all_goals
            go_wp2_with fail
            go_end0
            refine ⟨rfl,_,_,_,(by rw [HN0.out]; exact KP.out.drew),?_⟩
            (rw [List.length_set,HL2.out,HN0.out]; have:=HSZ.out; omega)
end Go.Proofs.YtgdngfdeeadlnaaGreatDoor
