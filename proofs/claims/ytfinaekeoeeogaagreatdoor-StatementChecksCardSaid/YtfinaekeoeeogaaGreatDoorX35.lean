/- Contracts: the kit's OddCondition. -/
import Derived.Test.YtfinaekeoeeogaaGreatDoorX34
import Derived.ArgAppend
import Derived.Test.YtfinaekeoeeogaaGreatDoorX25
set_option linter.unusedVariables false
set_option linter.unusedSimpArgs false
namespace Go.Proofs.YtfinaekeoeeogaaGreatDoor
open Go.RowKit Num
theorem TrmB.args1 {K : Nat} {t : Trm} (h : TrmB K t) (m : Int) : TrmB (K + 1) { t with args := t.args ++ [m] } := ⟨Nat.le_succ_of_le h.1,Nat.le_succ_of_le h.2.1,by rw [List.length_append]; have := h.2.2; simp; omega⟩
theorem TrmB.mono {K K' : Nat} {t : Trm} (h : TrmB K t) (hk : K ≤ K') : TrmB K' t := ⟨Nat.le_trans h.1 hk,Nat.le_trans h.2.1 hk,Nat.le_trans h.2.2 hk⟩
def oddW : Nat → ByteArray := fun i => ([⟨#[]⟩,⟨#[97,34,98]⟩,⟨#[120]⟩] : List ByteArray).getD i ⟨#[]⟩
theorem oddW_small (i : Nat) : (oddW i).size ≤ 3 := by
 unfold oddW
 match i with
 | 0 | 1 | 2 => decide
 | k+3 => simp [List.getD]; exact Nat.zero_le _
set_option maxRecDepth 100000 in
set_option maxHeartbeats 4000000 in
theorem k_Odd_some (S : Nat → Prop) (K db b off n c : Nat) (L : List Trm) (w : World) (hd : Dc w db) (hS : ∀ q,S q → q ≠ db ∧ q < w.heap.size) (hv : TermsAt w S (.slice (some ⟨b,off,none⟩) n c) L) (hn : n = L.length) (h1 : 1 ≤ n) (h2 : n ≤ 100000)
    (hK:3 ≤ K ∧ K ≤ 100000) (hok:∀ t ∈ L,TrmB K t) :
    Calls Tryz.prog 21 #[.pointer (some ⟨db,0,none⟩),.agg #[.slice (some ⟨b,off,none⟩) n c]] w (OddE w S db n (K+1)):=by
  obtain ⟨i0,hi,hz0,hz1,hz2⟩:=info_parts infoT
  obtain ⟨j0,hj,hy0,hy1,hy2⟩:=info_parts infoI'
  have hlt:=hd.lt
  obtain ⟨us,hus,hsrc⟩:=terms_src hv
  have hone:=tmsC_one hus
  have hlen:=tmsC_len L us
  have hbb:b ≠ db ∧ b < w.heap.size:=by
    obtain ⟨A,n',c',he,_,_,h4⟩:=hv
    injection he with e1 e2 e3
    obtain ⟨b',off',hA,hS',_⟩:=h4 (by omega)
    rw [← e1] at hA
    injection hA with hA; injection hA with a1 a2
    rw [a1]; exact hS b' hS'
  have hb2:Below w.heap.size w ((w.alloc (.cells #[.slice (some ⟨b,off,none⟩) n c] 26)).alloc (.cells #[.slice none 0 0] 26)):=((Below.refl _ _).alloc (Nat.le_refl _) _).alloc (by simp) _
  have hnews:∀ j u,(tmsC L us)[j]?=some u → ((w.alloc (.cells #[.slice (some ⟨b,off,none⟩) n c] 26)).alloc (.cells #[.slice none 0 0] 26)).cell? ((⟨b,off,none⟩:Addr).add j)=some u:=fun j u hj =>
    (hb2.cell (p:=(⟨b,off,none⟩:Addr).add j) (by rw [Go.WideShapes.add_plain]; exact hbb.2)).trans (hsrc j u hj)
  have hlen2:(tmsC L us).length=n*6:=by rw [hlen,hn]
  have hw2:((w.alloc (.cells #[.slice (some ⟨b,off,none⟩) n c] 26)).alloc (.cells #[.slice none 0 0] 26)).heap.size=w.heap.size+2:=by simp
  have HB2:=Lib.hid hb2
  have HD:=Lib.hid hd
  have HV:=Lib.hid hv
  have HN:=Lib.hid hn
  have HUS:=Lib.hid hus
  have HNEWS:=Lib.hid hnews
  have HONE:=Lib.hid hone
  have HLEN:=Lib.hid hlen2
  have HW2:=Lib.hid hw2
  have HOK:=Lib.hid hok
  have HBB:=Lib.hid hbb
  have HS:=Lib.hid hS
  clear hd hv hn hus hsrc hone hlen hok hbb hb2 hnews hlen2 hw2 hS
  go_enter Tryz.func21,Tryz.ntmps21
  go_wp2_with (at_builtin; refine wpList_append_own_at _ rfl _ _ 24 rfl (w.heap.size+2) 51 i0 (.agg #[.int .i64 0,.int .i64 0,.int .i64 0,.string ⟨#[]⟩,.string ⟨#[]⟩,.slice none 0 0]) 6 80 Tryz.underlying24 hi hz0 hz1 hz2 rfl (by decide) (.slice none 0 0) 0 [] rfl (World.ownsRow_nil _ _ _ _) ⟨b,off,none⟩ n c (tmsC L us) rfl HLEN.out HNEWS.out HONE.out (by unfold maxLen; omega) (by omega) (by rw [HW2.out]; omega) ?_)
  intro v' w1 hown hgrow _ hat
  have hown:w1.ownsRow (w.heap.size+2) 51 6 v' n (tmsC L us):=by simpa using hown
  obtain ⟨g,cap,rfl,hgB,hgl⟩:=hown.form h1
  have hg0:=hgrow
  have HOWN:=Lib.hid hown
  have HGROW:=Lib.hid hgrow
  clear hown hgrow hat hg0
  have hbw1:Below w.heap.size w w1:=HB2.out.grown HGROW.out (by simp; omega) (fun g hg => by cases hg)
  have hs1:=HGROW.out.size
  rw [HW2.out] at hs1
  have hbw2:Below w.heap.size w (w1.alloc (.cells #[.slice (some ⟨g,0,none⟩) n cap] 26)):=hbw1.alloc hbw1.size _
  have hc2:(w1.alloc (.cells #[.slice (some ⟨g,0,none⟩) n cap] 26)).cell? ⟨w1.heap.size,0,none⟩=some (.slice (some ⟨g,0,none⟩) n cap):=(Blk.new w1 26 #[.slice (some ⟨g,0,none⟩) n cap]).cell 0
  have hsz2:(w1.alloc (.cells #[.slice (some ⟨g,0,none⟩) n cap] 26)).heap.size=w1.heap.size+1:=by simp
  have hr1:Blk w1 (w.heap.size+1) 26 #[.slice none 0 0]:=(HGROW.out.block (w.heap.size+1) (by rw [HW2.out]; omega) (by intro e; cases e)).trans (blk_two w _ 26 #[.slice none 0 0])
  have HR2:=Lib.hid (hr1.alloc (.cells #[.slice (some ⟨g,0,none⟩) n cap] 26))
  have HBW2:=Lib.hid hbw2
  have HC2:=Lib.hid hc2
  have HSZ2:=Lib.hid hsz2
  clear hbw1 hbw2 hc2 hsz2 hr1
  go_wp2_with fail
  obtain ⟨w2,hw2⟩:∃ w2,(w1.alloc (.cells #[.slice (some ⟨g,0,none⟩) n cap] 26))=w2:=⟨_,rfl⟩
  rw [hw2] at HBW2 HC2 HSZ2 HR2 ⊢
  have hd2:Dc w2 db:=HD.out.keep fun i hi => HBW2.out.block i (by omega)
  have HD2:=Lib.hid hd2
  have HWW:=Lib.hid hw2
  have mk:∀ W:World,Dc W db → w2.grownBy W (some db) → W.cell? ⟨w1.heap.size,0,none⟩=some (.slice (some ⟨g,0,none⟩) n cap) ∧ Hid (Dc W db ∧ w2.grownBy W (some db)):=fun W h1 h2 =>
    ⟨(World.cell?_of_block (a:=⟨w1.heap.size,0,none⟩) (h2.block w1.heap.size (by rw [HSZ2.out]; omega) (by intro e; injection e; omega))).trans HC2.out,Lib.hid ⟨h1,h2⟩⟩
  have MK:=Lib.hid mk
  have hnx:∀ W:World,Dc W db → Calls Tryz.prog 19 #[.pointer (some ⟨db,0,none⟩),.int .i64 (n:Int)] W (NextPost db n W):=fun W h => k_Next db n W h h1 (by omega)
  have HNX:=Lib.hid hnx
  clear hd2 mk hw2 hnx
  go_region_held3 (fun W => W.cell? ⟨w1.heap.size,0,none⟩=some (.slice (some ⟨g,0,none⟩) n cap) ∧ Hid (Dc W db ∧ w2.grownBy W (some db)))
    (first
      | exact HP.out
      | exact MK.out _ HD2.out.drew (only_drewN (World.grownBy.refl w2 _) 1))
    (first
      | (go_at_call 19
         (with_reducible refine (HNX.out _ HD2.out.drew).mono ?_)
         rintro e w5 ⟨r,hr,rfl,hd5,hg5⟩
         have hg5':w2.grownBy w5 (some db):=(only_drewN (World.grownBy.refl w2 _) 1).trans hg5
         have HP:=Lib.hid (MK.out w5 hd5 hg5')
         have qr:(r:Int) < (n:Int):=by omega
         have q0:(0:Int) ≤ (r:Int):=by omega
         clear hd5 hg5 hg5'))
  all_goals
    obtain ⟨hcell5,hHid⟩:=HP.out
    obtain ⟨hd5,hg5⟩:=hHid.out
    have hrow2:=((HOWN.out.alloc (.cells #[.slice (some ⟨g,0,none⟩) n cap] 26)))
    rw [HWW.out] at hrow2
    have hrow5:=hrow2.kept hg5 (.inr (by intro e; have e':some g=some db:=e; injection e' with e'; omega))
    have hb5:∀ q,q ≠ db → q < w.heap.size → w5.heap[q]?=w.heap[q]?:=fun q hq hl => (hg5.block q (by have:=HBW2.out.size; omega) (by intro e; injection e with e'; exact hq e')).trans (HBW2.out.block q hl)
    have hO:OwnTr w5 (w.heap.size+2) S (.slice (some ⟨g,0,none⟩) L.length cap) L us:=⟨by rw [← HN.out]; exact hrow5,fun k hk => (HUS.out k hk).keep fun q hq => hb5 q (HS.out q hq).1 (HS.out q hq).2⟩
    have hr5:Blk w5 (w.heap.size+1) 26 #[.slice none 0 0]:=(hg5.block (w.heap.size+1) HR2.out.lt (by intro e; injection e with e'; omega)).trans HR2.out
    have hc5:Blk w5 w1.heap.size 26 #[.slice (some ⟨g,0,none⟩) n cap]:=(hg5.block w1.heap.size (by rw [HSZ2.out]; omega) (by intro e; injection e with e'; omega)).trans (by rw [← HWW.out]; exact Blk.new w1 _ _)
    have hgw:w.grownBy w5 (some db):=⟨hg5.os.trans HBW2.out.os,hg5.tape.trans HBW2.out.tape,hg5.output.trans HBW2.out.output,Nat.le_trans HBW2.out.size hg5.size,fun k hk hne => (hg5.block k (Nat.lt_of_lt_of_le hk HBW2.out.size) hne).trans (HBW2.out.block k hk)⟩
    have HS5:=Lib.hid (show OdS w w5 S db w1.heap.size g n cap L us from ⟨HS.out,HN.out,h1,hd5,hO,hr5,hc5,hgw,hlt,hgB,hgl⟩)
    have hok:∀ t ∈ L,TrmB (K+1) t:=fun t ht => (HOK.out t ht).mono (Nat.le_succ K)
    have hrn:r < n:=by omega
    have hmem:trmAt L r ∈ L:=trmAt_mem (by have:=HN.out; omega)
    have hsm:=HOK.out _ hmem
    have hokr:=hok _ hmem
    have HOT:=Lib.hid hok
    have HSM:=Lib.hid (And.intro hsm hokr)
    clear hO hd5 hg5 hrow2 hrow5 hb5 hHid HP hr5 hc5 hgw hok hsm hokr hmem HOWN HGROW HN HV HUS HNEWS HONE HLEN HBB HB2 HOK HNX MK HD2 HD HS
    generalize hcb:w1.heap.size=cb at *
    clear hcb HBW2 HR2 HC2 HSZ2 HWW hs1
    go_wp2_with fail
    refine (k_Next db 8 w5 HS5.out.dc (by omega) (by omega)).mono ?_
    rintro e w6 ⟨r8,hr8,rfl,hd6,hg6⟩
    have HS6:=Lib.hid (HS5.out.dice hd6 hg6)
    clear hd6 hg6 hcell5 HS5
    have h8:r8=0 ∨ r8=1 ∨ r8=2 ∨ r8=3 ∨ r8=4 ∨ r8=5 ∨ r8=6 ∨ r8=7:=by omega
    have z0:=HS6.out.cc
    have z1:=HS6.out.cr
    have z2:=HS6.out.fr
    have hglt:=HS6.out.glt
    have hclt:=HS6.out.clt
    have hgw6:=HS6.out.glw
    have hcs6:=HS6.out.cnd.lt
    rcases h8 with rfl | rfl | rfl | rfl | rfl | rfl | rfl | rfl
    all_goals clear hr8
    · go_wp2_with fail
      refine (k_Next db 10 w6 HS6.out.dc (by omega) (by omega)).mono ?_
      rintro e w7 ⟨r9,hr9,rfl,hd7,hg7⟩
      have HS7:=Lib.hid (HS6.out.dice hd7 hg7)
      clear hd7 hg7 z0 z1 z2
      have q1:=HS7.out.cc
      have q2:=HS7.out.cr
      have q3:=HS7.out.fr
      have q4:=HS7.out.ct r 0 hrn (by decide)
      have q5:=HS7.out.ft (r*6)
      simp only [tmCell,List.getD_cons_zero,List.getD_cons_succ,Nat.add_zero] at q4
      go_wp2_with fail
      refine bodyPost_ret (v:=.agg #[.slice (some ⟨g,0,none⟩) n cap]) ?_ rfl ?_
      · have e1:=HS7.out.resAfter g (r*6) (.int .i64 (r9:Int)) (.slice (some ⟨g,0,none⟩) n cap) (by omega)
        simp [results,Tryz.results21,go_sem,e1]
      · exact HS7.out.stored (i:=0) hrn (by decide) { trmAt L r with kind:=(r9:Int) } (us r) _ rfl (HS7.out.arg hrn) HSM.out.2 HOT.out _
    · go_wp2_with fail
      have hs6:=HS6.out.alloc (.cells #[.int .i64 0,.int .i64 (-1),.int .i64 64,.int .i64 65] 3)
      refine (k_Next db 4 _ hs6.dc (by omega) (by omega)).mono ?_
      rintro e w7 ⟨r9,hr9,rfl,hd7,hg7⟩
      have hsz7:=hg7.size
      simp only [World.size_alloc] at hsz7
      have hb7:Blk w7 w6.heap.size 3 #[.int .i64 0,.int .i64 (-1),.int .i64 64,.int .i64 65]:=(hg7.block w6.heap.size (by simp) (by intro e; injection e; omega)).trans (Blk.new w6 _ _)
      obtain ⟨x,hx⟩:∃ x:Int,w7.cell? ⟨w6.heap.size,r9,none⟩=some (.int .i64 x):=by
        have h9:r9=0 ∨ r9=1 ∨ r9=2 ∨ r9=3:=by omega
        rcases h9 with rfl | rfl | rfl | rfl
        · exact ⟨_,hb7.cell 0⟩
        · exact ⟨_,hb7.cell 1⟩
        · exact ⟨_,hb7.cell 2⟩
        · exact ⟨_,hb7.cell 3⟩
      have HS7:=Lib.hid (hs6.dice hd7 hg7)
      clear hd7 hg7 z0 z1 z2 hs6 hb7
      have q1:=HS7.out.cc
      have q2:=HS7.out.cr
      have q3:=HS7.out.fr
      have q4:=HS7.out.ct r 1 hrn (by decide)
      have q5:=HS7.out.ft (r*6+1)
      simp only [tmCell,List.getD_cons_zero,List.getD_cons_succ,Nat.add_zero] at q4
      go_wp2_with fail
      refine bodyPost_ret (v:=.agg #[.slice (some ⟨g,0,none⟩) n cap]) ?_ rfl ?_
      · have e1:=HS7.out.resAfter g (r*6+1) (.int .i64 x) (.slice (some ⟨g,0,none⟩) n cap) (by omega)
        simp [results,Tryz.results21,go_sem,e1]
      · exact HS7.out.stored (i:=1) hrn (by decide) { trmAt L r with num:=x } (us r) _ rfl (HS7.out.arg hrn) HSM.out.2 HOT.out _
    · obtain ⟨Aa,na,ca,hua,hna,hnc,hsrc⟩:=id (HS6.out.arg hrn)
      have hrd:=(hua ▸ HS6.out.arg hrn).reads (B:=w6.heap.size) (fun b hb => hb.2.2.2.2)
      have q1:=HS6.out.cc
      have q2:=HS6.out.cr
      have q3:=HS6.out.fr
      have q4:=HS6.out.ct r 5 hrn (by decide)
      have q5:=HS6.out.ft (r*6+5)
      simp only [tmCell,List.getD_cons_zero,List.getD_cons_succ,Nat.add_zero] at q4
      rw [hua] at q4
      have hlen:na ≤ 100000:=by have:=HSM.out.1.2.2; omega
      have HUA:=Lib.hid hua
      have HRD:=Lib.hid hrd
      have HNA:=Lib.hid hna
      clear hua hrd hna hsrc hnc q1 q2 q3
      go_wp2_with (at_builtin; refine wpList_append_any _ rfl _ _ 22 rfl w6.heap.size 3 j0 (.int .i64 0) 1 8 Tryz.underlying22 hj hy0 hy1 hy2 rfl (by decide) (.slice none 0 0) 0 [] rfl (World.ownsRow_nil _ _ _ _) w6.heap.size Aa na ca ((trmAt L r).args.map (Value.int .i64)) rfl HRD.out (ints_oneCell .i64 _) (by unfold maxLen; omega) (by omega) (Nat.le_refl _) ?_)
      intro v1 w7 hown7 hg7 _
      have hown7:w7.ownsRow w6.heap.size 3 1 v1 na ((trmAt L r).args.map (Value.int .i64)):=by simpa using hown7
      have hs7:=hg7.size
      have hS7:OdS w w7 S db cb g n cap L us:=HS6.out.grown hg7 (fun q hq => by cases hq)
      have HO7:=Lib.hid hown7
      have HS7:=Lib.hid hS7
      clear hown7 hg7 hS7 q4 q5 z0 z1 z2
      go_wp2_with fail
      refine (k_Next db 4 w7 HS7.out.dc (by omega) (by omega)).mono ?_
      rintro e w8 ⟨r9,hr9,rfl,hd8,hg8⟩
      have hs8:=hg8.size
      have HS8:=Lib.hid (HS7.out.dice hd8 hg8)
      have hne8:v1.ownBlock=none ∨ v1.ownBlock ≠ some db:=by
        rcases hb:v1.ownBlock with _ | q
        · exact .inl rfl
        · refine .inr ?_
          have:=(HO7.out.lt q hb).1
          intro e; injection e; omega
      have HO8:=Lib.hid (HO7.out.kept hg8 hne8)
      clear hd8 hg8 hne8 HO7 HS7
      go_wp2_with (at_builtin; refine wpList_append_own_at _ rfl _ _ 22 rfl w6.heap.size 3 j0 (.int .i64 0) 1 8 Tryz.underlying22 hj hy0 hy1 hy2 rfl (by decide) _ _ _ rfl (HO8.out.alloc _) ⟨w8.heap.size,0,none⟩ 1 1 [.int .i64 (r9:Int)] rfl rfl (cell_one_new _ _ _) (ints_oneCell .i64 [_]) (by unfold maxLen; omega) (by omega) (by simp; omega) ?_)
      intro v2 w9 hown9 hg9 _ _
      have hs9:=hg9.size
      simp only [World.size_alloc] at hs9
      have hS9:OdS w w9 S db cb g n cap L us:=(HS8.out.alloc _).grown hg9 (fun q hq => by have:=(HO8.out.lt q hq).1; omega)
      obtain ⟨A2,c2,rfl⟩:=own_slice hown9
      have hown9':w9.ownsRow w6.heap.size 3 1 (.slice A2 (na+1) c2) (na+1) (((trmAt L r).args ++ [(r9:Int)]).map (Value.int .i64)):=by simpa using hown9
      have hu9:=(IntsAt.of_own hown9').mono (T:=fun q => (S q ∨ w.heap.size ≤ q) ∧ q ≠ db ∧ q ≠ w.heap.size+1 ∧ q ≠ g ∧ q < w9.heap.size) (fun q hq => ⟨.inr (by omega),by omega,by omega,by omega,hq.2⟩)
      have HU9:=Lib.hid hu9
      have HS9:=Lib.hid hS9
      clear hown9 hown9' hg9 hS9 hu9 HS8 HO8
      have q1:=HS9.out.cc
      have q2:=HS9.out.cr
      have q3:=HS9.out.fr
      have q4:=HS9.out.ct r 5 hrn (by decide)
      have q5:=HS9.out.ft (r*6+5)
      simp only [tmCell,List.getD_cons_zero,List.getD_cons_succ,Nat.add_zero] at q4
      rw [HUA.out] at q4
      go_wp2_with fail
      refine bodyPost_ret (v:=.agg #[.slice (some ⟨g,0,none⟩) n cap]) ?_ rfl ?_
      · have e1:=HS9.out.resAfter g (r*6+5) (.slice A2 (na+1) c2) (.slice (some ⟨g,0,none⟩) n cap) (by omega)
        simp [results,Tryz.results21,go_sem,e1]
      · exact HS9.out.stored (i:=5) hrn (by decide) { trmAt L r with args:=(trmAt L r).args ++ [(r9:Int)] } (.slice A2 (na+1) c2) _ rfl HU9.out (HSM.out.1.args1 _) HOT.out _
    · go_wp2_with fail
      have hs6:=HS6.out.alloc (.cells #[.int .i64 (-1),.int .i64 100,.int .i64 101] 3)
      refine (k_Next db 3 _ hs6.dc (by omega) (by omega)).mono ?_
      rintro e w7 ⟨r9,hr9,rfl,hd7,hg7⟩
      have hsz7:=hg7.size
      simp only [World.size_alloc] at hsz7
      have hb7:Blk w7 w6.heap.size 3 #[.int .i64 (-1),.int .i64 100,.int .i64 101]:=(hg7.block w6.heap.size (by simp) (by intro e; injection e; omega)).trans (Blk.new w6 _ _)
      obtain ⟨x,hx⟩:∃ x:Int,w7.cell? ⟨w6.heap.size,r9,none⟩=some (.int .i64 x):=by
        have h9:r9=0 ∨ r9=1 ∨ r9=2:=by omega
        rcases h9 with rfl | rfl | rfl
        · exact ⟨_,hb7.cell 0⟩
        · exact ⟨_,hb7.cell 1⟩
        · exact ⟨_,hb7.cell 2⟩
      have HS7:=Lib.hid (hs6.dice hd7 hg7)
      clear hd7 hg7 z0 z1 z2 hs6 hb7
      have q1:=HS7.out.cc
      have q2:=HS7.out.cr
      have q3:=HS7.out.fr
      have q4:=HS7.out.ct r 2 hrn (by decide)
      have q5:=HS7.out.ft (r*6+2)
      simp only [tmCell,List.getD_cons_zero,List.getD_cons_succ,Nat.add_zero] at q4
      go_wp2_with fail
      refine bodyPost_ret (v:=.agg #[.slice (some ⟨g,0,none⟩) n cap]) ?_ rfl ?_
      · have e1:=HS7.out.resAfter g (r*6+2) (.int .i64 x) (.slice (some ⟨g,0,none⟩) n cap) (by omega)
        simp [results,Tryz.results21,go_sem,e1]
      · exact HS7.out.stored (i:=2) hrn (by decide) { trmAt L r with yrs:=x } (us r) _ rfl (HS7.out.arg hrn) HSM.out.2 HOT.out _
    · go_wp2_with fail
      have hs6:=HS6.out.alloc (.cells #[.string ⟨#[]⟩,.string ⟨#[97,34,98]⟩,.string ⟨#[120]⟩] 9)
      have hb6:Blk (w6.alloc (.cells #[.string ⟨#[]⟩,.string ⟨#[97,34,98]⟩,.string ⟨#[120]⟩] 9)) w6.heap.size 9 #[.string ⟨#[]⟩,.string ⟨#[97,34,98]⟩,.string ⟨#[120]⟩]:=Blk.new w6 _ _
      refine (k_WordK db w6.heap.size 0 3 3 oddW _ hs6.dc (by simp) (by omega) (by omega) (by omega) (fun i hi => ?_)).mono ?_
      · have h9:i=0 ∨ i=1 ∨ i=2:=by omega
        rcases h9 with rfl | rfl | rfl
        · exact hb6.cell 0
        · exact hb6.cell 1
        · exact hb6.cell 2
      rintro e w7 ⟨r9,hr9,rfl,hd7,hg7⟩
      have HS7:=Lib.hid (hs6.dice hd7 hg7)
      have hz:=oddW_small r9
      generalize oddW r9=x at hz ⊢
      clear hd7 hg7 z0 z1 z2 hs6 hb6
      have q1:=HS7.out.cc
      have q2:=HS7.out.cr
      have q3:=HS7.out.fr
      have q4:=HS7.out.ct r 4 hrn (by decide)
      have q5:=HS7.out.ft (r*6+4)
      simp only [tmCell,List.getD_cons_zero,List.getD_cons_succ,Nat.add_zero] at q4
      go_wp2_with fail
      refine bodyPost_ret (v:=.agg #[.slice (some ⟨g,0,none⟩) n cap]) ?_ rfl ?_
      · have e1:=HS7.out.resAfter g (r*6+4) (.string x) (.slice (some ⟨g,0,none⟩) n cap) (by omega)
        simp [results,Tryz.results21,go_sem,e1]
      · exact HS7.out.stored (i:=4) hrn (by decide) { trmAt L r with text:=x } (us r) _ rfl (HS7.out.arg hrn) ⟨HSM.out.2.1,by show x.size ≤ _; omega,HSM.out.2.2.2⟩ HOT.out _
    · have hrow:=HS6.out.own.row
      rw [← HS6.out.len] at hrow
      have HROW:=Lib.hid hrow
      clear hrow
      go_wp2_with (at_builtin; refine wpList_append_own_at _ rfl _ _ 24 rfl (w.heap.size+2) 51 i0 (.agg #[.int .i64 0,.int .i64 0,.int .i64 0,.string ⟨#[]⟩,.string ⟨#[]⟩,.slice none 0 0]) 6 80 Tryz.underlying24 hi hz0 hz1 hz2 rfl (by decide) _ _ _ rfl (HROW.out.alloc _) ⟨w6.heap.size,0,none⟩ 1 1 [.int .i64 8,.int .i64 0,.int .i64 0,.string ⟨#[]⟩,.string ⟨#[]⟩,.slice none 0 0] rfl rfl (cell_six_new _ _ _ _ _ _ _ _) (by intro u hu; simp at hu; rcases hu with rfl | rfl | rfl | rfl | rfl | rfl <;> rfl) (by unfold maxLen; omega) (by omega) (by simp; omega) ?_)
      intro v2 w7 hown7 hg7 _ hwh
      obtain ⟨A2,c2,rfl,y1,y2,y3,y4,hres,hfin⟩:=HS6.out.pushed HOT.out (t:=⟨8,0,0,⟨#[]⟩,⟨#[]⟩,[]⟩) rfl ⟨Nat.zero_le _,Nat.zero_le _,Nat.zero_le _⟩ hown7 hg7 (by simpa [Value.ownBlock] using hwh)
      have HRES:=Lib.hid hres
      have HFIN:=Lib.hid hfin
      have hs7:=hg7.size
      simp only [World.size_alloc] at hs7
      clear hown7 hg7 hwh hres hfin z0 z1 z2
      go_wp2_with fail
      refine bodyPost_ret (v:=.agg #[.slice A2 (n+1) c2]) ?_ rfl ?_
      · have e1:=HRES.out (.slice A2 (n+1) c2) (.slice A2 (n+1) c2)
        simp [results,Tryz.results21,go_sem,e1]
      · exact HFIN.out _ _
    · have hncap:n ≤ cap:=by
        have ht:=HS6.out.own.termsG
        obtain ⟨_,_,_,e,_,h,_⟩:=ht
        injection e with _ e2 e3
        have:=HS6.out.len
        omega
      have hsl:=fun (W:World) => run_slice_lo (P:=Tryz.prog) W 24 51 i0 6 Tryz.underlying24 hi hz1 (some ⟨g,0,none⟩) n cap 1 h1 hncap (1:Int) rfl
      have z3:=HS6.out.fc
      obtain ⟨As,hAs⟩:∃ As,subA (some ⟨g,0,none⟩) cap 1 6=As:=⟨_,rfl⟩
      rw [hAs] at hsl
      have HAS:=Lib.hid hAs
      clear hAs
      go_wp2_with fail
      refine bodyPost_ret (v:=.agg #[.slice As (n - 1) (cap - 1)]) ?_ rfl ?_
      · have e1:=HS6.out.resAfter cb 0 (.slice As (n - 1) (cap - 1)) (.slice As (n - 1) (cap - 1)) (by omega)
        simp [results,Tryz.results21,go_sem,e1]
      · have:=HS6.out.cut HOT.out (.slice As (n - 1) (cap - 1)) (.slice As (n - 1) (cap - 1))
        rw [HAS.out] at this
        exact this
    · go_wp2_with fail
      refine bodyPost_ret (v:=.agg #[.slice (some ⟨g,0,none⟩) n cap]) ?_ rfl ?_
      · have e1:=HS6.out.resNow (.slice (some ⟨g,0,none⟩) n cap)
        simp [results,Tryz.results21,go_sem,e1]
      · exact HS6.out.plain HOT.out _
theorem run_copy_none (w : World) (ty : TypeId) (A : Option Addr) (c : Nat) :
  ∃ v' w',(Builtin.append_ #[24,24] ty #[.slice none 0 0,.slice A 0 c]).run Tryz.prog w=.ok v' w' ∧ w'.ownsRow w.heap.size 51 6 v' 0 [] ∧ Below w.heap.size w w':=by
 obtain ⟨j0,hj,hy0,hy1,hy2⟩:=info_parts infoT
 cases A with
 | none =>
  refine ⟨.slice none 0 0,w,?_,World.ownsRow_nil _ _ _ _,Below.refl _ _⟩
  simp [Builtin.append_,run_underlying Tryz.underlying24,sizeOf,typeInfo,hj,Builtin.lenOf,Builtin.firstCells]
 | some ad =>
  obtain ⟨v',w',hr,ho,hg,-,-⟩:=run_append_own_at (P:=Tryz.prog) (w:=w) w.heap.size 24 ty 51 j0 (.agg #[.int .i64 0,.int .i64 0,.int .i64 0,.string ⟨#[]⟩,.string ⟨#[]⟩,.slice none 0 0]) 6 80 Tryz.underlying24 hj hy0 hy1 hy2 rfl (by decide) (.slice none 0 0) 0 [] (World.ownsRow_nil _ _ _ _) ad 0 c [] rfl (fun j u h => by simp at h) (fun u h => by cases h) (by simp only [maxLen]; omega) (by omega) (Nat.le_refl _)
  exact ⟨v',w',hr,ho,⟨hg.os,hg.tape,hg.output,hg.size,fun q hq => hg.block q hq (by simp [Value.ownBlock])⟩⟩
theorem wpList_copy_none {w : World} {ops : Array Oper} {rest : List Oper} {o : Oper} {a : Act} {Q : Exit → Act → World → Prop} (hgd : o.guard = none) (s x : Operand)
  (ho:o.op=.call { callee:=.builtin .append,args:=#[s,x],argTypes:=#[24,24] })
  (hs:a.eval s=.slice none 0 0) (A:Option Addr) (c:Nat) (hx:a.eval x=.slice A 0 c)
  (h:∀ v' w',w'.ownsRow w.heap.size 51 6 v' 0 [] → Below w.heap.size w w' → wpList Tryz.prog ops Q rest (a.put o.dst v') w'):wpList Tryz.prog ops Q (o :: rest) a w:=by
 refine wpList_plain hgd fun K hK => ?_
 obtain ⟨v',w',hr,h2,h3⟩:=run_copy_none w o.type A c
 unfold Oper.wp execOp
 simp only [ho,resolve,invoke,builtin,Sem.run_bind,Sem.run_pure,Result.andThen_ok,List.map_toArray,List.map_cons,List.map_nil,hs,hx,hr]
 exact hK _ _ (h v' w' h2 h3)
end Go.Proofs.YtfinaekeoeeogaaGreatDoor
