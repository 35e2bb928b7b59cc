/- Contracts: which fields are right, the program's and the reference's. -/
import Derived.Test.YtgdngfdeeadlnaaGreatDoorZ12
import Derived.Test.YtgdngfdeeadlnaaGreatDoorZ06
import Derived.Test.YtgdngfdeeadlnaaGreatDoorZ05
set_option linter.unusedVariables false
set_option linter.unusedSimpArgs false
namespace Go.Proofs.YtgdngfdeeadlnaaGreatDoor
open Go.RowKit Num
theorem optsB_len {L : List ByteArray} (h : ¬ L.length ≤ 16) : optsB L = false := decide_eq_false fun hg => h hg.2.2
set_option maxRecDepth 100000 in
set_option maxHeartbeats 4000000 in
theorem f_right (nm : ByteArray) (kd : Int) (nd : Bool) (le mo : Int) (op : List ByteArray) (u : Value) (S : Nat → Prop) (w : World) (hu : TxsAt w S u op) (hS : ∀ b,S b → b < w.heap.size) (hok : FldOk ⟨nm,kd,nd,le,mo,op⟩) :
  Calls Tryz.prog 74 #[.agg #[.string nm,.int .i64 kd,.bool nd,.int .i64 le,.int .i64 mo,u]] w (BoolBel (fldB ⟨nm,kd,nd,le,mo,op⟩) w):=by
 obtain ⟨A,n,c,rfl,hn,hnc,hcc⟩:=id hu
 have hb0:Below w.heap.size w (w.alloc (.cells #[.string nm,.int .i64 kd,.bool nd,.int .i64 le,.int .i64 mo,.slice A n c] 58)):=(Below.refl _ _).alloc (Nat.le_refl _) _
 have hsz:(w.alloc (.cells #[.string nm,.int .i64 kd,.bool nd,.int .i64 le,.int .i64 mo,.slice A n c] 58)).heap.size=w.heap.size+1:=by simp
 have hbk:Blk (w.alloc (.cells #[.string nm,.int .i64 kd,.bool nd,.int .i64 le,.int .i64 mo,.slice A n c] 58)) w.heap.size 58 #[.string nm,.int .i64 kd,.bool nd,.int .i64 le,.int .i64 mo,.slice A n c]:=Blk.new w _ _
 obtain ⟨g1,g2,g3,g4,g5,g6,g7,g8,g9⟩:=hok
 simp only at g1 g2 g3 g4 g5 g6 g7 g8 g9
 have hop:∀ W:World,Below w.heap.size w W → Calls Tryz.prog 108 #[.slice A n c] W fun e w' => e=.returned (.bool (optsB op)) ∧ W=w':=fun W hb => f_options (.slice A n c) op S W (hu.keep fun b hB => hb.block b (hS b hB)) (fun b hB => Nat.lt_of_lt_of_le (hS b hB) hb.size) g2 (fun k hk => g9 _ (by rw [List.getD_eq_getElem?_getD,List.getElem?_eq_getElem hk]; exact List.getElem_mem hk))
 have hnm:=fun (W:World) (hb:Below w.heap.size w W) => f_Name nm W g1
 have HB0:=Lib.hid hb0
 have HBK:=Lib.hid hbk
 have HOP:=Lib.hid hop
 have HNM:=Lib.hid hnm
 have HN:=Lib.hid hn
 clear hn hb0 hbk hop hnm hcc hu hS g9
 cases hnn:nameB (blOf nm)
 ·have HNN:=Lib.hid hnn
  have he:fldB ⟨nm,kd,nd,le,mo,op⟩=false:=by unfold fldB; simp [HNN.out]
  have HE:=Lib.hid he
  clear he
  go_enter Tryz.func74,Tryz.ntmps74
  go_wp2_with fail
  refine (HNM.out _ HB0.out).mono ?_
  rw [HNN.out]
  rintro e w1 ⟨rfl,hb1⟩
  have hb2:=HB0.out.trans (hb1.mono (by omega))
  have hk1:=HBK.out.below' hb1 (by omega)
  have c0:=(hk1.cell 0).trans (show _=some (Value.string nm) from rfl)
  have c1:=(hk1.cell 1).trans (show _=some (Value.int .i64 kd) from rfl)
  have c3:=(hk1.cell 3).trans (show _=some (Value.int .i64 le) from rfl)
  have c4:=(hk1.cell 4).trans (show _=some (Value.int .i64 mo) from rfl)
  have c5:=(hk1.cell 5).trans (show _=some (Value.slice A n c) from rfl)
  have HB2:=Lib.hid hb2
  clear hb1 hb2 hk1
  go_wp2_with fail
  go_ret
  exact ⟨by rw [HE.out]; first | rfl | (simp [HNN.out]),HB2.out⟩
 ·have HNN:=Lib.hid hnn
  clear hnn
  by_cases a1:mo < le
  ·have a2:¬ le ≤ mo:=by omega
   have he:fldB ⟨nm,kd,nd,le,mo,op⟩=false:=by unfold fldB; simp [HNN.out,a2]
   have HE:=Lib.hid he
   clear he
   go_enter Tryz.func74,Tryz.ntmps74
   go_wp2_with fail
   refine (HNM.out _ HB0.out).mono ?_
   rw [HNN.out]
   rintro e w1 ⟨rfl,hb1⟩
   have hb2:=HB0.out.trans (hb1.mono (by omega))
   have hk1:=HBK.out.below' hb1 (by omega)
   have c0:=(hk1.cell 0).trans (show _=some (Value.string nm) from rfl)
   have c1:=(hk1.cell 1).trans (show _=some (Value.int .i64 kd) from rfl)
   have c3:=(hk1.cell 3).trans (show _=some (Value.int .i64 le) from rfl)
   have c4:=(hk1.cell 4).trans (show _=some (Value.int .i64 mo) from rfl)
   have c5:=(hk1.cell 5).trans (show _=some (Value.slice A n c) from rfl)
   have HB2:=Lib.hid hb2
   clear hb1 hb2 hk1
   go_wp2_with fail
   go_ret
   exact ⟨by rw [HE.out]; first | rfl | (simp [HNN.out]),HB2.out⟩
  have a2:le ≤ mo:=by omega
  by_cases b1:kd=4
  ·subst b1
   by_cases e1:le=0
   ·subst e1
    by_cases e2:mo=0
    ·subst e2
     by_cases e3:n ≤ 16
     ·have e4:(n:Int) ≤ 16:=by omega
      have he:fldB ⟨nm,4,nd,0,0,op⟩=optsB op:=by unfold fldB; simp [HNN.out,a2]
      have HE:=Lib.hid he
      clear he
      go_enter Tryz.func74,Tryz.ntmps74
      go_wp2_with fail
      refine (HNM.out _ HB0.out).mono ?_
      rw [HNN.out]
      rintro e w1 ⟨rfl,hb1⟩
      have hb2:=HB0.out.trans (hb1.mono (by omega))
      have hk1:=HBK.out.below' hb1 (by omega)
      have c0:=(hk1.cell 0).trans (show _=some (Value.string nm) from rfl)
      have c1:=(hk1.cell 1).trans (show _=some (Value.int .i64 4) from rfl)
      have c3:=(hk1.cell 3).trans (show _=some (Value.int .i64 0) from rfl)
      have c4:=(hk1.cell 4).trans (show _=some (Value.int .i64 0) from rfl)
      have c5:=(hk1.cell 5).trans (show _=some (Value.slice A n c) from rfl)
      have HB2:=Lib.hid hb2
      clear hb1 hb2 hk1
      go_wp2_with fail
      refine (HOP.out _ HB2.out).mono ?_
      rintro e w3 ⟨rfl,rfl⟩
      go_wp2_with fail
      go_ret
      exact ⟨by rw [HE.out]; first | rfl | (simp [HNN.out]),HB2.out⟩
     ·have e4:¬ (n:Int) ≤ 16:=by omega
      have e5:=optsB_len (L:=op) (by have:=HN.out; omega)
      have HE5:=Lib.hid e5
      clear e5
      have he:fldB ⟨nm,4,nd,0,0,op⟩=false:=by unfold fldB; simp [HNN.out,a2,HE5.out]
      have HE:=Lib.hid he
      clear he
      go_enter Tryz.func74,Tryz.ntmps74
      go_wp2_with fail
      refine (HNM.out _ HB0.out).mono ?_
      rw [HNN.out]
      rintro e w1 ⟨rfl,hb1⟩
      have hb2:=HB0.out.trans (hb1.mono (by omega))
      have hk1:=HBK.out.below' hb1 (by omega)
      have c0:=(hk1.cell 0).trans (show _=some (Value.string nm) from rfl)
      have c1:=(hk1.cell 1).trans (show _=some (Value.int .i64 4) from rfl)
      have c3:=(hk1.cell 3).trans (show _=some (Value.int .i64 0) from rfl)
      have c4:=(hk1.cell 4).trans (show _=some (Value.int .i64 0) from rfl)
      have c5:=(hk1.cell 5).trans (show _=some (Value.slice A n c) from rfl)
      have HB2:=Lib.hid hb2
      clear hb1 hb2 hk1
      go_wp2_with fail
      go_ret
      exact ⟨by rw [HE.out]; first | rfl | (simp [HNN.out]),HB2.out⟩
    ·skip
     have he:fldB ⟨nm,4,nd,0,mo,op⟩=false:=by unfold fldB; simp [HNN.out,a2,e2]
     have HE:=Lib.hid he
     clear he
     go_enter Tryz.func74,Tryz.ntmps74
     go_wp2_with fail
     refine (HNM.out _ HB0.out).mono ?_
     rw [HNN.out]
     rintro e w1 ⟨rfl,hb1⟩
     have hb2:=HB0.out.trans (hb1.mono (by omega))
     have hk1:=HBK.out.below' hb1 (by omega)
     have c0:=(hk1.cell 0).trans (show _=some (Value.string nm) from rfl)
     have c1:=(hk1.cell 1).trans (show _=some (Value.int .i64 4) from rfl)
     have c3:=(hk1.cell 3).trans (show _=some (Value.int .i64 0) from rfl)
     have c4:=(hk1.cell 4).trans (show _=some (Value.int .i64 mo) from rfl)
     have c5:=(hk1.cell 5).trans (show _=some (Value.slice A n c) from rfl)
     have HB2:=Lib.hid hb2
     clear hb1 hb2 hk1
     go_wp2_with fail
     go_ret
     exact ⟨by rw [HE.out]; first | rfl | (simp [HNN.out]),HB2.out⟩
   ·skip
    have he:fldB ⟨nm,4,nd,le,mo,op⟩=false:=by unfold fldB; simp [HNN.out,a2,e1]
    have HE:=Lib.hid he
    clear he
    go_enter Tryz.func74,Tryz.ntmps74
    go_wp2_with fail
    refine (HNM.out _ HB0.out).mono ?_
    rw [HNN.out]
    rintro e w1 ⟨rfl,hb1⟩
    have hb2:=HB0.out.trans (hb1.mono (by omega))
    have hk1:=HBK.out.below' hb1 (by omega)
    have c0:=(hk1.cell 0).trans (show _=some (Value.string nm) from rfl)
    have c1:=(hk1.cell 1).trans (show _=some (Value.int .i64 4) from rfl)
    have c3:=(hk1.cell 3).trans (show _=some (Value.int .i64 le) from rfl)
    have c4:=(hk1.cell 4).trans (show _=some (Value.int .i64 mo) from rfl)
    have c5:=(hk1.cell 5).trans (show _=some (Value.slice A n c) from rfl)
    have HB2:=Lib.hid hb2
    clear hb1 hb2 hk1
    go_wp2_with fail
    go_ret
    exact ⟨by rw [HE.out]; first | rfl | (simp [HNN.out]),HB2.out⟩
  have b7:(kd == 4)=false:=by simpa using b1
  have b8:(kd != 4)=true:=by simpa using b1
  by_cases b2:n=0
  ·have b3:¬ (0:Int) < (n:Int):=by omega
   have b4:op.length=0:=by have:=HN.out; omega
   have HB4:=Lib.hid b4
   clear b4 b2
   by_cases f1:kd=1
   ·clear b7 b8
    subst f1
    by_cases f2:0 ≤ le
    ·by_cases f3:mo ≤ 16384
     ·skip
      have he:fldB ⟨nm,1,nd,le,mo,op⟩=true:=by unfold fldB; simp [HNN.out,a2,HB4.out,f2,f3]
      have HE:=Lib.hid he
      clear he
      go_enter Tryz.func74,Tryz.ntmps74
      go_wp2_with fail
      refine (HNM.out _ HB0.out).mono ?_
      rw [HNN.out]
      rintro e w1 ⟨rfl,hb1⟩
      have hb2:=HB0.out.trans (hb1.mono (by omega))
      have hk1:=HBK.out.below' hb1 (by omega)
      have c0:=(hk1.cell 0).trans (show _=some (Value.string nm) from rfl)
      have c1:=(hk1.cell 1).trans (show _=some (Value.int .i64 1) from rfl)
      have c3:=(hk1.cell 3).trans (show _=some (Value.int .i64 le) from rfl)
      have c4:=(hk1.cell 4).trans (show _=some (Value.int .i64 mo) from rfl)
      have c5:=(hk1.cell 5).trans (show _=some (Value.slice A n c) from rfl)
      have HB2:=Lib.hid hb2
      clear hb1 hb2 hk1
      go_wp2_with fail
      go_ret
      exact ⟨by rw [HE.out]; first | rfl | (simp [f2,f3]),HB2.out⟩
     ·skip
      have he:fldB ⟨nm,1,nd,le,mo,op⟩=false:=by unfold fldB; simp [HNN.out,a2,HB4.out,f2,f3]
      have HE:=Lib.hid he
      clear he
      go_enter Tryz.func74,Tryz.ntmps74
      go_wp2_with fail
      refine (HNM.out _ HB0.out).mono ?_
      rw [HNN.out]
      rintro e w1 ⟨rfl,hb1⟩
      have hb2:=HB0.out.trans (hb1.mono (by omega))
      have hk1:=HBK.out.below' hb1 (by omega)
      have c0:=(hk1.cell 0).trans (show _=some (Value.string nm) from rfl)
      have c1:=(hk1.cell 1).trans (show _=some (Value.int .i64 1) from rfl)
      have c3:=(hk1.cell 3).trans (show _=some (Value.int .i64 le) from rfl)
      have c4:=(hk1.cell 4).trans (show _=some (Value.int .i64 mo) from rfl)
      have c5:=(hk1.cell 5).trans (show _=some (Value.slice A n c) from rfl)
      have HB2:=Lib.hid hb2
      clear hb1 hb2 hk1
      go_wp2_with fail
      go_ret
      exact ⟨by rw [HE.out]; first | rfl | (simp [f2,f3]),HB2.out⟩
    ·skip
     have he:fldB ⟨nm,1,nd,le,mo,op⟩=false:=by unfold fldB; simp [HNN.out,a2,HB4.out,f2]
     have HE:=Lib.hid he
     clear he
     go_enter Tryz.func74,Tryz.ntmps74
     go_wp2_with fail
     refine (HNM.out _ HB0.out).mono ?_
     rw [HNN.out]
     rintro e w1 ⟨rfl,hb1⟩
     have hb2:=HB0.out.trans (hb1.mono (by omega))
     have hk1:=HBK.out.below' hb1 (by omega)
     have c0:=(hk1.cell 0).trans (show _=some (Value.string nm) from rfl)
     have c1:=(hk1.cell 1).trans (show _=some (Value.int .i64 1) from rfl)
     have c3:=(hk1.cell 3).trans (show _=some (Value.int .i64 le) from rfl)
     have c4:=(hk1.cell 4).trans (show _=some (Value.int .i64 mo) from rfl)
     have c5:=(hk1.cell 5).trans (show _=some (Value.slice A n c) from rfl)
     have HB2:=Lib.hid hb2
     clear hb1 hb2 hk1
     go_wp2_with fail
     go_ret
     exact ⟨by rw [HE.out]; first | rfl | (simp [f2]),HB2.out⟩
   rename ¬ kd=1 => h1
   have i1:(kd == 1)=false:=by simpa using h1
   by_cases f1:kd=2
   ·clear b7 b8
    subst f1
    have he:fldB ⟨nm,2,nd,le,mo,op⟩=true:=by unfold fldB; simp [HNN.out,a2,HB4.out]
    have HE:=Lib.hid he
    clear he
    go_enter Tryz.func74,Tryz.ntmps74
    go_wp2_with fail
    refine (HNM.out _ HB0.out).mono ?_
    rw [HNN.out]
    rintro e w1 ⟨rfl,hb1⟩
    have hb2:=HB0.out.trans (hb1.mono (by omega))
    have hk1:=HBK.out.below' hb1 (by omega)
    have c0:=(hk1.cell 0).trans (show _=some (Value.string nm) from rfl)
    have c1:=(hk1.cell 1).trans (show _=some (Value.int .i64 2) from rfl)
    have c3:=(hk1.cell 3).trans (show _=some (Value.int .i64 le) from rfl)
    have c4:=(hk1.cell 4).trans (show _=some (Value.int .i64 mo) from rfl)
    have c5:=(hk1.cell 5).trans (show _=some (Value.slice A n c) from rfl)
    have HB2:=Lib.hid hb2
    clear hb1 hb2 hk1
    go_wp2_with fail
    go_ret
    exact ⟨by rw [HE.out]; first | rfl | (simp [HNN.out]),HB2.out⟩
   rename ¬ kd=2 => h2
   have i2:(kd == 2)=false:=by simpa using h2
   by_cases f1:kd=3
   ·clear b7 b8
    subst f1
    by_cases f2:0 ≤ le
    ·by_cases f3:mo ≤ 3652058
     ·skip
      have he:fldB ⟨nm,3,nd,le,mo,op⟩=true:=by unfold fldB; simp [HNN.out,a2,HB4.out,f2,f3]
      have HE:=Lib.hid he
      clear he
      go_enter Tryz.func74,Tryz.ntmps74
      go_wp2_with fail
      refine (HNM.out _ HB0.out).mono ?_
      rw [HNN.out]
      rintro e w1 ⟨rfl,hb1⟩
      have hb2:=HB0.out.trans (hb1.mono (by omega))
      have hk1:=HBK.out.below' hb1 (by omega)
      have c0:=(hk1.cell 0).trans (show _=some (Value.string nm) from rfl)
      have c1:=(hk1.cell 1).trans (show _=some (Value.int .i64 3) from rfl)
      have c3:=(hk1.cell 3).trans (show _=some (Value.int .i64 le) from rfl)
      have c4:=(hk1.cell 4).trans (show _=some (Value.int .i64 mo) from rfl)
      have c5:=(hk1.cell 5).trans (show _=some (Value.slice A n c) from rfl)
      have HB2:=Lib.hid hb2
      clear hb1 hb2 hk1
      go_wp2_with fail
      go_ret
      exact ⟨by rw [HE.out]; first | rfl | (simp [f2,f3]),HB2.out⟩
     ·skip
      have he:fldB ⟨nm,3,nd,le,mo,op⟩=false:=by unfold fldB; simp [HNN.out,a2,HB4.out,f2,f3]
      have HE:=Lib.hid he
      clear he
      go_enter Tryz.func74,Tryz.ntmps74
      go_wp2_with fail
      refine (HNM.out _ HB0.out).mono ?_
      rw [HNN.out]
      rintro e w1 ⟨rfl,hb1⟩
      have hb2:=HB0.out.trans (hb1.mono (by omega))
      have hk1:=HBK.out.below' hb1 (by omega)
      have c0:=(hk1.cell 0).trans (show _=some (Value.string nm) from rfl)
      have c1:=(hk1.cell 1).trans (show _=some (Value.int .i64 3) from rfl)
      have c3:=(hk1.cell 3).trans (show _=some (Value.int .i64 le) from rfl)
      have c4:=(hk1.cell 4).trans (show _=some (Value.int .i64 mo) from rfl)
      have c5:=(hk1.cell 5).trans (show _=some (Value.slice A n c) from rfl)
      have HB2:=Lib.hid hb2
      clear hb1 hb2 hk1
      go_wp2_with fail
      go_ret
      exact ⟨by rw [HE.out]; first | rfl | (simp [f2,f3]),HB2.out⟩
    ·skip
     have he:fldB ⟨nm,3,nd,le,mo,op⟩=false:=by unfold fldB; simp [HNN.out,a2,HB4.out,f2]
     have HE:=Lib.hid he
     clear he
     go_enter Tryz.func74,Tryz.ntmps74
     go_wp2_with fail
     refine (HNM.out _ HB0.out).mono ?_
     rw [HNN.out]
     rintro e w1 ⟨rfl,hb1⟩
     have hb2:=HB0.out.trans (hb1.mono (by omega))
     have hk1:=HBK.out.below' hb1 (by omega)
     have c0:=(hk1.cell 0).trans (show _=some (Value.string nm) from rfl)
     have c1:=(hk1.cell 1).trans (show _=some (Value.int .i64 3) from rfl)
     have c3:=(hk1.cell 3).trans (show _=some (Value.int .i64 le) from rfl)
     have c4:=(hk1.cell 4).trans (show _=some (Value.int .i64 mo) from rfl)
     have c5:=(hk1.cell 5).trans (show _=some (Value.slice A n c) from rfl)
     have HB2:=Lib.hid hb2
     clear hb1 hb2 hk1
     go_wp2_with fail
     go_ret
     exact ⟨by rw [HE.out]; first | rfl | (simp [f2]),HB2.out⟩
   rename ¬ kd=3 => h3
   have i3:(kd == 3)=false:=by simpa using h3
   have he:fldB ⟨nm,kd,nd,le,mo,op⟩=false:=by unfold fldB; simp [HNN.out,a2,HB4.out,b1,h1,h2,h3]
   have HE:=Lib.hid he
   clear he
   go_enter Tryz.func74,Tryz.ntmps74
   go_wp2_with fail
   refine (HNM.out _ HB0.out).mono ?_
   rw [HNN.out]
   rintro e w1 ⟨rfl,hb1⟩
   have hb2:=HB0.out.trans (hb1.mono (by omega))
   have hk1:=HBK.out.below' hb1 (by omega)
   have c0:=(hk1.cell 0).trans (show _=some (Value.string nm) from rfl)
   have c1:=(hk1.cell 1).trans (show _=some (Value.int .i64 kd) from rfl)
   have c3:=(hk1.cell 3).trans (show _=some (Value.int .i64 le) from rfl)
   have c4:=(hk1.cell 4).trans (show _=some (Value.int .i64 mo) from rfl)
   have c5:=(hk1.cell 5).trans (show _=some (Value.slice A n c) from rfl)
   have HB2:=Lib.hid hb2
   clear hb1 hb2 hk1
   go_wp2_with fail
   go_ret
   exact ⟨by rw [HE.out]; first | rfl | (simp [HNN.out]),HB2.out⟩
  ·have b3:(0:Int) < (n:Int):=by omega
   have b4:¬ op.length=0:=by have:=HN.out; omega
   have b5:¬ op = []:=fun h => b4 (by rw [h]; rfl)
   have HB4:=Lib.hid b4
   have HB5:=Lib.hid b5
   have b6:0 < n:=by omega
   clear b4 b5 b2
   have he:fldB ⟨nm,kd,nd,le,mo,op⟩=false:=by unfold fldB; simp [HNN.out,a2,b1,HB4.out,HB5.out]
   have HE:=Lib.hid he
   clear he
   go_enter Tryz.func74,Tryz.ntmps74
   go_wp2_with fail
   refine (HNM.out _ HB0.out).mono ?_
   rw [HNN.out]
   rintro e w1 ⟨rfl,hb1⟩
   have hb2:=HB0.out.trans (hb1.mono (by omega))
   have hk1:=HBK.out.below' hb1 (by omega)
   have c0:=(hk1.cell 0).trans (show _=some (Value.string nm) from rfl)
   have c1:=(hk1.cell 1).trans (show _=some (Value.int .i64 kd) from rfl)
   have c3:=(hk1.cell 3).trans (show _=some (Value.int .i64 le) from rfl)
   have c4:=(hk1.cell 4).trans (show _=some (Value.int .i64 mo) from rfl)
   have c5:=(hk1.cell 5).trans (show _=some (Value.slice A n c) from rfl)
   have HB2:=Lib.hid hb2
   clear hb1 hb2 hk1
   go_wp2_with fail
   go_ret
   exact ⟨by rw [HE.out]; first | rfl | (simp [HNN.out]),HB2.out⟩
set_option maxRecDepth 100000 in
set_option maxHeartbeats 4000000 in
theorem r_field (nm : ByteArray) (kd : Int) (nd : Bool) (le mo : Int) (op : List ByteArray) (u : Value) (S : Nat → Prop) (w : World) (hu : TxsAt w S u op) (hS : ∀ b,S b → b < w.heap.size) (hok : FldOk ⟨nm,kd,nd,le,mo,op⟩) (hsp : SpcOk w) (hl : LibOk w) :
  Calls Tryz.prog 48 #[.agg #[.string nm,.int .i64 kd,.bool nd,.int .i64 le,.int .i64 mo,u]] w (BoolBel (fldB ⟨nm,kd,nd,le,mo,op⟩) w):=by
 obtain ⟨A,n,c,rfl,hn,hnc,hcc⟩:=id hu
 have hb0:Below w.heap.size w (w.alloc (.cells #[.string nm,.int .i64 kd,.bool nd,.int .i64 le,.int .i64 mo,.slice A n c] 58)):=(Below.refl _ _).alloc (Nat.le_refl _) _
 have hsz:(w.alloc (.cells #[.string nm,.int .i64 kd,.bool nd,.int .i64 le,.int .i64 mo,.slice A n c] 58)).heap.size=w.heap.size+1:=by simp
 have hbk:Blk (w.alloc (.cells #[.string nm,.int .i64 kd,.bool nd,.int .i64 le,.int .i64 mo,.slice A n c] 58)) w.heap.size 58 #[.string nm,.int .i64 kd,.bool nd,.int .i64 le,.int .i64 mo,.slice A n c]:=Blk.new w _ _
 obtain ⟨g1,g2,g3,g4,g5,g6,g7,g8,g9⟩:=hok
 simp only at g1 g2 g3 g4 g5 g6 g7 g8 g9
 have hop:∀ W:World,Below w.heap.size w W → Calls Tryz.prog 86 #[.slice A n c] W fun e w' => e=.returned (.bool (optsB op)) ∧ W=w':=fun W hb => r_options (.slice A n c) op S W (hu.keep fun b hB => hb.block b (hS b hB)) (fun b hB => Nat.lt_of_lt_of_le (hS b hB) hb.size) g2 (fun k hk => g9 _ (by rw [List.getD_eq_getElem?_getD,List.getElem?_eq_getElem hk]; exact List.getElem_mem hk))
 have hnm:=fun (W:World) (hb:Below w.heap.size w W) => r_Name nm W g1 (spc_below hsp (by have:=hl.size; show 0 < _; omega) hb)
 have HB0:=Lib.hid hb0
 have HBK:=Lib.hid hbk
 have HOP:=Lib.hid hop
 have HNM:=Lib.hid hnm
 have HN:=Lib.hid hn
 clear hn hb0 hbk hop hnm hcc hu hS g9 hsp hl
 cases hnn:nameB (blOf nm)
 ·have HNN:=Lib.hid hnn
  have he:fldB ⟨nm,kd,nd,le,mo,op⟩=false:=by unfold fldB; simp [HNN.out]
  have HE:=Lib.hid he
  clear he
  go_enter Tryz.func48,Tryz.ntmps48
  go_wp2_with fail
  refine (HNM.out _ HB0.out).mono ?_
  rw [HNN.out]
  rintro e w1 ⟨rfl,hb1⟩
  have hb2:=HB0.out.trans (hb1.mono (by omega))
  have hk1:=HBK.out.below' hb1 (by omega)
  have c0:=(hk1.cell 0).trans (show _=some (Value.string nm) from rfl)
  have c1:=(hk1.cell 1).trans (show _=some (Value.int .i64 kd) from rfl)
  have c3:=(hk1.cell 3).trans (show _=some (Value.int .i64 le) from rfl)
  have c4:=(hk1.cell 4).trans (show _=some (Value.int .i64 mo) from rfl)
  have c5:=(hk1.cell 5).trans (show _=some (Value.slice A n c) from rfl)
  have HB2:=Lib.hid hb2
  clear hb1 hb2 hk1
  go_wp2_with fail
  go_ret
  exact ⟨by rw [HE.out]; first | rfl | (simp [HNN.out]),HB2.out⟩
 ·have HNN:=Lib.hid hnn
  clear hnn
  by_cases a2:le ≤ mo
  ·have a1:¬ mo < le:=by omega
   by_cases b1:kd=4
   ·subst b1
    by_cases e1:le=0
    ·subst e1
     by_cases e2:mo=0
     ·subst e2
      have he:fldB ⟨nm,4,nd,0,0,op⟩=optsB op:=by unfold fldB; simp [HNN.out,a2]
      have HE:=Lib.hid he
      clear he
      go_enter Tryz.func48,Tryz.ntmps48
      go_wp2_with fail
      refine (HNM.out _ HB0.out).mono ?_
      rw [HNN.out]
      rintro e w1 ⟨rfl,hb1⟩
      have hb2:=HB0.out.trans (hb1.mono (by omega))
      have hk1:=HBK.out.below' hb1 (by omega)
      have c0:=(hk1.cell 0).trans (show _=some (Value.string nm) from rfl)
      have c1:=(hk1.cell 1).trans (show _=some (Value.int .i64 4) from rfl)
      have c3:=(hk1.cell 3).trans (show _=some (Value.int .i64 0) from rfl)
      have c4:=(hk1.cell 4).trans (show _=some (Value.int .i64 0) from rfl)
      have c5:=(hk1.cell 5).trans (show _=some (Value.slice A n c) from rfl)
      have HB2:=Lib.hid hb2
      clear hb1 hb2 hk1
      go_wp2_with fail
      refine (HOP.out _ HB2.out).mono ?_
      rintro e w3 ⟨rfl,rfl⟩
      go_wp2_with fail
      go_ret
      exact ⟨by rw [HE.out]; first | rfl | (simp [HNN.out]),HB2.out⟩
     ·skip
      have he:fldB ⟨nm,4,nd,0,mo,op⟩=false:=by unfold fldB; simp [HNN.out,a2,e2]
      have HE:=Lib.hid he
      clear he
      go_enter Tryz.func48,Tryz.ntmps48
      go_wp2_with fail
      refine (HNM.out _ HB0.out).mono ?_
      rw [HNN.out]
      rintro e w1 ⟨rfl,hb1⟩
      have hb2:=HB0.out.trans (hb1.mono (by omega))
      have hk1:=HBK.out.below' hb1 (by omega)
      have c0:=(hk1.cell 0).trans (show _=some (Value.string nm) from rfl)
      have c1:=(hk1.cell 1).trans (show _=some (Value.int .i64 4) from rfl)
      have c3:=(hk1.cell 3).trans (show _=some (Value.int .i64 0) from rfl)
      have c4:=(hk1.cell 4).trans (show _=some (Value.int .i64 mo) from rfl)
      have c5:=(hk1.cell 5).trans (show _=some (Value.slice A n c) from rfl)
      have HB2:=Lib.hid hb2
      clear hb1 hb2 hk1
      go_wp2_with fail
      go_ret
      exact ⟨by rw [HE.out]; first | rfl | (simp [HNN.out]),HB2.out⟩
    ·skip
     have he:fldB ⟨nm,4,nd,le,mo,op⟩=false:=by unfold fldB; simp [HNN.out,a2,e1]
     have HE:=Lib.hid he
     clear he
     go_enter Tryz.func48,Tryz.ntmps48
     go_wp2_with fail
     refine (HNM.out _ HB0.out).mono ?_
     rw [HNN.out]
     rintro e w1 ⟨rfl,hb1⟩
     have hb2:=HB0.out.trans (hb1.mono (by omega))
     have hk1:=HBK.out.below' hb1 (by omega)
     have c0:=(hk1.cell 0).trans (show _=some (Value.string nm) from rfl)
     have c1:=(hk1.cell 1).trans (show _=some (Value.int .i64 4) from rfl)
     have c3:=(hk1.cell 3).trans (show _=some (Value.int .i64 le) from rfl)
     have c4:=(hk1.cell 4).trans (show _=some (Value.int .i64 mo) from rfl)
     have c5:=(hk1.cell 5).trans (show _=some (Value.slice A n c) from rfl)
     have HB2:=Lib.hid hb2
     clear hb1 hb2 hk1
     go_wp2_with fail
     go_ret
     exact ⟨by rw [HE.out]; first | rfl | (simp [HNN.out]),HB2.out⟩
   have b7:(kd == 4)=false:=by simpa using b1
   have b8:(kd != 4)=true:=by simpa using b1
   by_cases b2:n=0
   ·have b3:¬ (0:Int) < (n:Int):=by omega
    have b4:op.length=0:=by have:=HN.out; omega
    have HB4:=Lib.hid b4
    clear b4 b2
    by_cases f1:kd=1
    ·clear b7 b8
     subst f1
     by_cases f2:0 ≤ le
     ·by_cases f3:mo ≤ 16384
      ·skip
       have he:fldB ⟨nm,1,nd,le,mo,op⟩=true:=by unfold fldB; simp [HNN.out,a2,HB4.out,f2,f3]
       have HE:=Lib.hid he
       clear he
       go_enter Tryz.func48,Tryz.ntmps48
       go_wp2_with fail
       refine (HNM.out _ HB0.out).mono ?_
       rw [HNN.out]
       rintro e w1 ⟨rfl,hb1⟩
       have hb2:=HB0.out.trans (hb1.mono (by omega))
       have hk1:=HBK.out.below' hb1 (by omega)
       have c0:=(hk1.cell 0).trans (show _=some (Value.string nm) from rfl)
       have c1:=(hk1.cell 1).trans (show _=some (Value.int .i64 1) from rfl)
       have c3:=(hk1.cell 3).trans (show _=some (Value.int .i64 le) from rfl)
       have c4:=(hk1.cell 4).trans (show _=some (Value.int .i64 mo) from rfl)
       have c5:=(hk1.cell 5).trans (show _=some (Value.slice A n c) from rfl)
       have HB2:=Lib.hid hb2
       clear hb1 hb2 hk1
       go_wp2_with fail
       go_ret
       exact ⟨by rw [HE.out]; first | rfl | (simp [f2,f3]),HB2.out⟩
      ·skip
       have he:fldB ⟨nm,1,nd,le,mo,op⟩=false:=by unfold fldB; simp [HNN.out,a2,HB4.out,f2,f3]
       have HE:=Lib.hid he
       clear he
       go_enter Tryz.func48,Tryz.ntmps48
       go_wp2_with fail
       refine (HNM.out _ HB0.out).mono ?_
       rw [HNN.out]
       rintro e w1 ⟨rfl,hb1⟩
       have hb2:=HB0.out.trans (hb1.mono (by omega))
       have hk1:=HBK.out.below' hb1 (by omega)
       have c0:=(hk1.cell 0).trans (show _=some (Value.string nm) from rfl)
       have c1:=(hk1.cell 1).trans (show _=some (Value.int .i64 1) from rfl)
       have c3:=(hk1.cell 3).trans (show _=some (Value.int .i64 le) from rfl)
       have c4:=(hk1.cell 4).trans (show _=some (Value.int .i64 mo) from rfl)
       have c5:=(hk1.cell 5).trans (show _=some (Value.slice A n c) from rfl)
       have HB2:=Lib.hid hb2
       clear hb1 hb2 hk1
       go_wp2_with fail
       go_ret
       exact ⟨by rw [HE.out]; first | rfl | (simp [f2,f3]),HB2.out⟩
     ·skip
      have he:fldB ⟨nm,1,nd,le,mo,op⟩=false:=by unfold fldB; simp [HNN.out,a2,HB4.out,f2]
      have HE:=Lib.hid he
      clear he
      go_enter Tryz.func48,Tryz.ntmps48
      go_wp2_with fail
      refine (HNM.out _ HB0.out).mono ?_
      rw [HNN.out]
      rintro e w1 ⟨rfl,hb1⟩
      have hb2:=HB0.out.trans (hb1.mono (by omega))
      have hk1:=HBK.out.below' hb1 (by omega)
      have c0:=(hk1.cell 0).trans (show _=some (Value.string nm) from rfl)
      have c1:=(hk1.cell 1).trans (show _=some (Value.int .i64 1) from rfl)
      have c3:=(hk1.cell 3).trans (show _=some (Value.int .i64 le) from rfl)
      have c4:=(hk1.cell 4).trans (show _=some (Value.int .i64 mo) from rfl)
      have c5:=(hk1.cell 5).trans (show _=some (Value.slice A n c) from rfl)
      have HB2:=Lib.hid hb2
      clear hb1 hb2 hk1
      go_wp2_with fail
      go_ret
      exact ⟨by rw [HE.out]; first | rfl | (simp [f2]),HB2.out⟩
    rename ¬ kd=1 => h1
    have i1:(kd == 1)=false:=by simpa using h1
    by_cases f1:kd=2
    ·clear b7 b8
     subst f1
     have he:fldB ⟨nm,2,nd,le,mo,op⟩=true:=by unfold fldB; simp [HNN.out,a2,HB4.out]
     have HE:=Lib.hid he
     clear he
     go_enter Tryz.func48,Tryz.ntmps48
     go_wp2_with fail
     refine (HNM.out _ HB0.out).mono ?_
     rw [HNN.out]
     rintro e w1 ⟨rfl,hb1⟩
     have hb2:=HB0.out.trans (hb1.mono (by omega))
     have hk1:=HBK.out.below' hb1 (by omega)
     have c0:=(hk1.cell 0).trans (show _=some (Value.string nm) from rfl)
     have c1:=(hk1.cell 1).trans (show _=some (Value.int .i64 2) from rfl)
     have c3:=(hk1.cell 3).trans (show _=some (Value.int .i64 le) from rfl)
     have c4:=(hk1.cell 4).trans (show _=some (Value.int .i64 mo) from rfl)
     have c5:=(hk1.cell 5).trans (show _=some (Value.slice A n c) from rfl)
     have HB2:=Lib.hid hb2
     clear hb1 hb2 hk1
     go_wp2_with fail
     go_ret
     exact ⟨by rw [HE.out]; first | rfl | (simp [HNN.out]),HB2.out⟩
    rename ¬ kd=2 => h2
    have i2:(kd == 2)=false:=by simpa using h2
    by_cases f1:kd=3
    ·clear b7 b8
     subst f1
     by_cases f2:0 ≤ le
     ·by_cases f3:mo ≤ 3652058
      ·skip
       have he:fldB ⟨nm,3,nd,le,mo,op⟩=true:=by unfold fldB; simp [HNN.out,a2,HB4.out,f2,f3]
       have HE:=Lib.hid he
       clear he
       go_enter Tryz.func48,Tryz.ntmps48
       go_wp2_with fail
       refine (HNM.out _ HB0.out).mono ?_
       rw [HNN.out]
       rintro e w1 ⟨rfl,hb1⟩
       have hb2:=HB0.out.trans (hb1.mono (by omega))
       have hk1:=HBK.out.below' hb1 (by omega)
       have c0:=(hk1.cell 0).trans (show _=some (Value.string nm) from rfl)
       have c1:=(hk1.cell 1).trans (show _=some (Value.int .i64 3) from rfl)
       have c3:=(hk1.cell 3).trans (show _=some (Value.int .i64 le) from rfl)
       have c4:=(hk1.cell 4).trans (show _=some (Value.int .i64 mo) from rfl)
       have c5:=(hk1.cell 5).trans (show _=some (Value.slice A n c) from rfl)
       have HB2:=Lib.hid hb2
       clear hb1 hb2 hk1
       go_wp2_with fail
       go_ret
       exact ⟨by rw [HE.out]; first | rfl | (simp [f2,f3]),HB2.out⟩
      ·skip
       have he:fldB ⟨nm,3,nd,le,mo,op⟩=false:=by unfold fldB; simp [HNN.out,a2,HB4.out,f2,f3]
       have HE:=Lib.hid he
       clear he
       go_enter Tryz.func48,Tryz.ntmps48
       go_wp2_with fail
       refine (HNM.out _ HB0.out).mono ?_
       rw [HNN.out]
       rintro e w1 ⟨rfl,hb1⟩
       have hb2:=HB0.out.trans (hb1.mono (by omega))
       have hk1:=HBK.out.below' hb1 (by omega)
       have c0:=(hk1.cell 0).trans (show _=some (Value.string nm) from rfl)
       have c1:=(hk1.cell 1).trans (show _=some (Value.int .i64 3) from rfl)
       have c3:=(hk1.cell 3).trans (show _=some (Value.int .i64 le) from rfl)
       have c4:=(hk1.cell 4).trans (show _=some (Value.int .i64 mo) from rfl)
       have c5:=(hk1.cell 5).trans (show _=some (Value.slice A n c) from rfl)
       have HB2:=Lib.hid hb2
       clear hb1 hb2 hk1
       go_wp2_with fail
       go_ret
       exact ⟨by rw [HE.out]; first | rfl | (simp [f2,f3]),HB2.out⟩
     ·skip
      have he:fldB ⟨nm,3,nd,le,mo,op⟩=false:=by unfold fldB; simp [HNN.out,a2,HB4.out,f2]
      have HE:=Lib.hid he
      clear he
      go_enter Tryz.func48,Tryz.ntmps48
      go_wp2_with fail
      refine (HNM.out _ HB0.out).mono ?_
      rw [HNN.out]
      rintro e w1 ⟨rfl,hb1⟩
      have hb2:=HB0.out.trans (hb1.mono (by omega))
      have hk1:=HBK.out.below' hb1 (by omega)
      have c0:=(hk1.cell 0).trans (show _=some (Value.string nm) from rfl)
      have c1:=(hk1.cell 1).trans (show _=some (Value.int .i64 3) from rfl)
      have c3:=(hk1.cell 3).trans (show _=some (Value.int .i64 le) from rfl)
      have c4:=(hk1.cell 4).trans (show _=some (Value.int .i64 mo) from rfl)
      have c5:=(hk1.cell 5).trans (show _=some (Value.slice A n c) from rfl)
      have HB2:=Lib.hid hb2
      clear hb1 hb2 hk1
      go_wp2_with fail
      go_ret
      exact ⟨by rw [HE.out]; first | rfl | (simp [f2]),HB2.out⟩
    rename ¬ kd=3 => h3
    have i3:(kd == 3)=false:=by simpa using h3
    have he:fldB ⟨nm,kd,nd,le,mo,op⟩=false:=by unfold fldB; simp [HNN.out,a2,HB4.out,b1,h1,h2,h3]
    have HE:=Lib.hid he
    clear he
    go_enter Tryz.func48,Tryz.ntmps48
    go_wp2_with fail
    refine (HNM.out _ HB0.out).mono ?_
    rw [HNN.out]
    rintro e w1 ⟨rfl,hb1⟩
    have hb2:=HB0.out.trans (hb1.mono (by omega))
    have hk1:=HBK.out.below' hb1 (by omega)
    have c0:=(hk1.cell 0).trans (show _=some (Value.string nm) from rfl)
    have c1:=(hk1.cell 1).trans (show _=some (Value.int .i64 kd) from rfl)
    have c3:=(hk1.cell 3).trans (show _=some (Value.int .i64 le) from rfl)
    have c4:=(hk1.cell 4).trans (show _=some (Value.int .i64 mo) from rfl)
    have c5:=(hk1.cell 5).trans (show _=some (Value.slice A n c) from rfl)
    have HB2:=Lib.hid hb2
    clear hb1 hb2 hk1
    go_wp2_with fail
    go_ret
    exact ⟨by rw [HE.out]; first | rfl | (simp [HNN.out]),HB2.out⟩
   ·have b3:(0:Int) < (n:Int):=by omega
    have b4:¬ op.length=0:=by have:=HN.out; omega
    have b5:¬ op = []:=fun h => b4 (by rw [h]; rfl)
    have HB4:=Lib.hid b4
    have HB5:=Lib.hid b5
    have b6:0 < n:=by omega
    clear b4 b5 b2
    have he:fldB ⟨nm,kd,nd,le,mo,op⟩=false:=by unfold fldB; simp [HNN.out,a2,b1,HB4.out,HB5.out]
    have HE:=Lib.hid he
    clear he
    go_enter Tryz.func48,Tryz.ntmps48
    go_wp2_with fail
    refine (HNM.out _ HB0.out).mono ?_
    rw [HNN.out]
    rintro e w1 ⟨rfl,hb1⟩
    have hb2:=HB0.out.trans (hb1.mono (by omega))
    have hk1:=HBK.out.below' hb1 (by omega)
    have c0:=(hk1.cell 0).trans (show _=some (Value.string nm) from rfl)
    have c1:=(hk1.cell 1).trans (show _=some (Value.int .i64 kd) from rfl)
    have c3:=(hk1.cell 3).trans (show _=some (Value.int .i64 le) from rfl)
    have c4:=(hk1.cell 4).trans (show _=some (Value.int .i64 mo) from rfl)
    have c5:=(hk1.cell 5).trans (show _=some (Value.slice A n c) from rfl)
    have HB2:=Lib.hid hb2
    clear hb1 hb2 hk1
    go_wp2_with fail
    go_ret
    exact ⟨by rw [HE.out]; first | rfl | (simp [HNN.out]),HB2.out⟩
  ·have a1:mo < le:=by omega
   by_cases b1:kd=4
   ·subst b1
    by_cases e1:le=0
    ·subst e1
     by_cases e2:mo=0
     ·subst e2
      exact absurd a1 (by omega)
     ·skip
      have he:fldB ⟨nm,4,nd,0,mo,op⟩=false:=by unfold fldB; simp [HNN.out,a2,e2]
      have HE:=Lib.hid he
      clear he
      go_enter Tryz.func48,Tryz.ntmps48
      go_wp2_with fail
      refine (HNM.out _ HB0.out).mono ?_
      rw [HNN.out]
      rintro e w1 ⟨rfl,hb1⟩
      have hb2:=HB0.out.trans (hb1.mono (by omega))
      have hk1:=HBK.out.below' hb1 (by omega)
      have c0:=(hk1.cell 0).trans (show _=some (Value.string nm) from rfl)
      have c1:=(hk1.cell 1).trans (show _=some (Value.int .i64 4) from rfl)
      have c3:=(hk1.cell 3).trans (show _=some (Value.int .i64 0) from rfl)
      have c4:=(hk1.cell 4).trans (show _=some (Value.int .i64 mo) from rfl)
      have c5:=(hk1.cell 5).trans (show _=some (Value.slice A n c) from rfl)
      have HB2:=Lib.hid hb2
      clear hb1 hb2 hk1
      go_wp2_with fail
      go_ret
      exact ⟨by rw [HE.out]; first | rfl | (simp [HNN.out]),HB2.out⟩
    ·skip
     have he:fldB ⟨nm,4,nd,le,mo,op⟩=false:=by unfold fldB; simp [HNN.out,a2,e1]
     have HE:=Lib.hid he
     clear he
     go_enter Tryz.func48,Tryz.ntmps48
     go_wp2_with fail
     refine (HNM.out _ HB0.out).mono ?_
     rw [HNN.out]
     rintro e w1 ⟨rfl,hb1⟩
     have hb2:=HB0.out.trans (hb1.mono (by omega))
     have hk1:=HBK.out.below' hb1 (by omega)
     have c0:=(hk1.cell 0).trans (show _=some (Value.string nm) from rfl)
     have c1:=(hk1.cell 1).trans (show _=some (Value.int .i64 4) from rfl)
     have c3:=(hk1.cell 3).trans (show _=some (Value.int .i64 le) from rfl)
     have c4:=(hk1.cell 4).trans (show _=some (Value.int .i64 mo) from rfl)
     have c5:=(hk1.cell 5).trans (show _=some (Value.slice A n c) from rfl)
     have HB2:=Lib.hid hb2
     clear hb1 hb2 hk1
     go_wp2_with fail
     go_ret
     exact ⟨by rw [HE.out]; first | rfl | (simp [HNN.out]),HB2.out⟩
   have b7:(kd == 4)=false:=by simpa using b1
   have b8:(kd != 4)=true:=by simpa using b1
   by_cases b2:n=0
   ·have b3:¬ (0:Int) < (n:Int):=by omega
    have b4:op.length=0:=by have:=HN.out; omega
    have HB4:=Lib.hid b4
    clear b4 b2
    by_cases f1:kd=1
    ·clear b7 b8
     subst f1
     have he:fldB ⟨nm,1,nd,le,mo,op⟩=false:=by unfold fldB; simp [HNN.out,a2,HB4.out]
     have HE:=Lib.hid he
     clear he
     go_enter Tryz.func48,Tryz.ntmps48
     go_wp2_with fail
     refine (HNM.out _ HB0.out).mono ?_
     rw [HNN.out]
     rintro e w1 ⟨rfl,hb1⟩
     have hb2:=HB0.out.trans (hb1.mono (by omega))
     have hk1:=HBK.out.below' hb1 (by omega)
     have c0:=(hk1.cell 0).trans (show _=some (Value.string nm) from rfl)
     have c1:=(hk1.cell 1).trans (show _=some (Value.int .i64 1) from rfl)
     have c3:=(hk1.cell 3).trans (show _=some (Value.int .i64 le) from rfl)
     have c4:=(hk1.cell 4).trans (show _=some (Value.int .i64 mo) from rfl)
     have c5:=(hk1.cell 5).trans (show _=some (Value.slice A n c) from rfl)
     have HB2:=Lib.hid hb2
     clear hb1 hb2 hk1
     go_wp2_with fail
     go_ret
     exact ⟨by rw [HE.out]; first | rfl | (simp [HNN.out]),HB2.out⟩
    rename ¬ kd=1 => h1
    have i1:(kd == 1)=false:=by simpa using h1
    by_cases f1:kd=2
    ·clear b7 b8
     subst f1
     have he:fldB ⟨nm,2,nd,le,mo,op⟩=false:=by unfold fldB; simp [HNN.out,a2,HB4.out]
     have HE:=Lib.hid he
     clear he
     go_enter Tryz.func48,Tryz.ntmps48
     go_wp2_with fail
     refine (HNM.out _ HB0.out).mono ?_
     rw [HNN.out]
     rintro e w1 ⟨rfl,hb1⟩
     have hb2:=HB0.out.trans (hb1.mono (by omega))
     have hk1:=HBK.out.below' hb1 (by omega)
     have c0:=(hk1.cell 0).trans (show _=some (Value.string nm) from rfl)
     have c1:=(hk1.cell 1).trans (show _=some (Value.int .i64 2) from rfl)
     have c3:=(hk1.cell 3).trans (show _=some (Value.int .i64 le) from rfl)
     have c4:=(hk1.cell 4).trans (show _=some (Value.int .i64 mo) from rfl)
     have c5:=(hk1.cell 5).trans (show _=some (Value.slice A n c) from rfl)
     have HB2:=Lib.hid hb2
     clear hb1 hb2 hk1
     go_wp2_with fail
     go_ret
     exact ⟨by rw [HE.out]; first | rfl | (simp [HNN.out]),HB2.out⟩
    rename ¬ kd=2 => h2
    have i2:(kd == 2)=false:=by simpa using h2
    by_cases f1:kd=3
    ·clear b7 b8
     subst f1
     have he:fldB ⟨nm,3,nd,le,mo,op⟩=false:=by unfold fldB; simp [HNN.out,a2,HB4.out]
     have HE:=Lib.hid he
     clear he
     go_enter Tryz.func48,Tryz.ntmps48
     go_wp2_with fail
     refine (HNM.out _ HB0.out).mono ?_
     rw [HNN.out]
     rintro e w1 ⟨rfl,hb1⟩
     have hb2:=HB0.out.trans (hb1.mono (by omega))
     have hk1:=HBK.out.below' hb1 (by omega)
     have c0:=(hk1.cell 0).trans (show _=some (Value.string nm) from rfl)
     have c1:=(hk1.cell 1).trans (show _=some (Value.int .i64 3) from rfl)
     have c3:=(hk1.cell 3).trans (show _=some (Value.int .i64 le) from rfl)
     have c4:=(hk1.cell 4).trans (show _=some (Value.int .i64 mo) from rfl)
     have c5:=(hk1.cell 5).trans (show _=some (Value.slice A n c) from rfl)
     have HB2:=Lib.hid hb2
     clear hb1 hb2 hk1
     go_wp2_with fail
     go_ret
     exact ⟨by rw [HE.out]; first | rfl | (simp [HNN.out]),HB2.out⟩
    rename ¬ kd=3 => h3
    have i3:(kd == 3)=false:=by simpa using h3
    have he:fldB ⟨nm,kd,nd,le,mo,op⟩=false:=by unfold fldB; simp [HNN.out,a2,HB4.out,b1,h1,h2,h3]
    have HE:=Lib.hid he
    clear he
    go_enter Tryz.func48,Tryz.ntmps48
    go_wp2_with fail
    refine (HNM.out _ HB0.out).mono ?_
    rw [HNN.out]
    rintro e w1 ⟨rfl,hb1⟩
    have hb2:=HB0.out.trans (hb1.mono (by omega))
    have hk1:=HBK.out.below' hb1 (by omega)
    have c0:=(hk1.cell 0).trans (show _=some (Value.string nm) from rfl)
    have c1:=(hk1.cell 1).trans (show _=some (Value.int .i64 kd) from rfl)
    have c3:=(hk1.cell 3).trans (show _=some (Value.int .i64 le) from rfl)
    have c4:=(hk1.cell 4).trans (show _=some (Value.int .i64 mo) from rfl)
    have c5:=(hk1.cell 5).trans (show _=some (Value.slice A n c) from rfl)
    have HB2:=Lib.hid hb2
    clear hb1 hb2 hk1
    go_wp2_with fail
    go_ret
    exact ⟨by rw [HE.out]; first | rfl | (simp [HNN.out]),HB2.out⟩
   ·have b3:(0:Int) < (n:Int):=by omega
    have b4:¬ op.length=0:=by have:=HN.out; omega
    have b5:¬ op = []:=fun h => b4 (by rw [h]; rfl)
    have HB4:=Lib.hid b4
    have HB5:=Lib.hid b5
    have b6:0 < n:=by omega
    clear b4 b5 b2
    have he:fldB ⟨nm,kd,nd,le,mo,op⟩=false:=by unfold fldB; simp [HNN.out,a2,b1,HB4.out,HB5.out]
    have HE:=Lib.hid he
    clear he
    go_enter Tryz.func48,Tryz.ntmps48
    go_wp2_with fail
    refine (HNM.out _ HB0.out).mono ?_
    rw [HNN.out]
    rintro e w1 ⟨rfl,hb1⟩
    have hb2:=HB0.out.trans (hb1.mono (by omega))
    have hk1:=HBK.out.below' hb1 (by omega)
    have c0:=(hk1.cell 0).trans (show _=some (Value.string nm) from rfl)
    have c1:=(hk1.cell 1).trans (show _=some (Value.int .i64 kd) from rfl)
    have c3:=(hk1.cell 3).trans (show _=some (Value.int .i64 le) from rfl)
    have c4:=(hk1.cell 4).trans (show _=some (Value.int .i64 mo) from rfl)
    have c5:=(hk1.cell 5).trans (show _=some (Value.slice A n c) from rfl)
    have HB2:=Lib.hid hb2
    clear hb1 hb2 hk1
    go_wp2_with fail
    go_ret
    exact ⟨by rw [HE.out]; first | rfl | (simp [HNN.out]),HB2.out⟩
end Go.Proofs.YtgdngfdeeadlnaaGreatDoor
