/- Contracts: statement.Check's parts on the empty form. And more. -/
import Derived.Test.YtgdngfdeeadlnaaGreatDoorZ11
import Derived.Test.YtgdngfdeeadlnaaGreatDoorZ14
import Derived.BigRegion
import Derived.Test.YtgdngfdeeadlnaaGreatDoorZ04
import Derived.Test.YtgdngfdeeadlnaaGreatDoorZ01
import Derived.Test.YtgdngfdeeadlnaaGreatDoorZ10
import Derived.Deep.CutRange
import Derived.Deep.CutBlock
import Derived.Test.YtgdngfdeeadlnaaGreatDoorZ03
import Derived.Test.YtgdngfdeeadlnaaGreatDoorZ06
import Derived.Test.YtgdngfdeeadlnaaGreatDoorZ05
set_option linter.unusedVariables false
set_option linter.unusedSimpArgs false
namespace Go.Proofs.YtgdngfdeeadlnaaGreatDoor
open Go.RowKit Num
set_option maxRecDepth 100000 in
set_option maxHeartbeats 400000 in
theorem v_Empty (w : World) : Calls Tryz.prog 40 #[.agg #[.string ⟨#[]⟩,.slice none 0 0]] w (AwkO w) := by
 have hb0:Below w.heap.size w (w.alloc (.cells #[.string ⟨#[]⟩,.slice none 0 0] 37)):=below_al' w _
 have HB:=Lib.hid hb0
 clear hb0
 go_enter Tryz.func40,Tryz.ntmps40
 go_wp2_with fail
 go_loopw [20] (fun v20 wr => v20=.int .i64 0 ∧ Below w.heap.size w wr) (fun _ _ => 0)
 case atStart => exact ⟨rfl,HB.out⟩
 case round =>
  obtain ⟨rfl,hb⟩:=hrel
  have HX:=Lib.hid hb
  clear hb
  go_wp2_with fail
  go_ret
  exact ⟨rfl,HX.out⟩
set_option maxRecDepth 100000 in
set_option maxHeartbeats 400000 in
theorem i_Fld0 (fv : Value) (w : World) : Calls Tryz.prog 75 #[.slice none 0 0,fv] w fun e w' => e = .returned (.int .i64 (-1)) ∧ w = w' := by
 go_enter Tryz.func75,Tryz.ntmps75
 go_wp2_with fail
 go_loopw [8] (fun vi wr => vi=.int .i64 0 ∧ w=wr) (fun _ _ => 0)
 case atStart => exact ⟨rfl,rfl⟩
 case round =>
  obtain ⟨rfl,rfl⟩:=hrel
  go_wp2_with fail
  go_ret
  exact ⟨rfl,rfl⟩
set_option maxRecDepth 100000 in
set_option maxHeartbeats 400000 in
theorem c_Fld0 (fv : Value) (w : World) : Calls Tryz.prog 89 #[.slice none 0 0,fv] w fun e w' => e = .returned (.bool false) ∧ w = w' := by
 go_enter Tryz.func89,Tryz.ntmps89
 go_wp2_with fail
 refine (i_Fld0 fv w).mono ?_
 rintro e w1 ⟨rfl,rfl⟩
 go_wp2_with fail
 go_ret
 exact ⟨rfl,rfl⟩
set_option maxRecDepth 100000 in
set_option maxHeartbeats 400000 in
theorem s_answers0 (w : World) : Calls Tryz.prog 53 #[.agg #[.string ⟨#[]⟩,.slice none 0 0],.slice none 0 0] w (AwkO w) := by
 have hmm:=@run_makeMap Tryz.prog
 have hb0:Below w.heap.size w (w.alloc (.cells #[.string ⟨#[]⟩,.slice none 0 0] 37)):=below_al' w _
 have hbx:Blk (w.alloc (.cells #[.string ⟨#[]⟩,.slice none 0 0] 37)) w.heap.size 37 #[.string ⟨#[]⟩,.slice none 0 0]:=Blk.new w _ _
 have hsz:(w.alloc (.cells #[.string ⟨#[]⟩,.slice none 0 0] 37)).heap.size=w.heap.size+1:=World.size_alloc _ _
 have HB:=Lib.hid hb0
 have HX:=Lib.hid hbx
 have HS:=Lib.hid hsz
 clear hb0 hbx hsz
 go_enter Tryz.func53,Tryz.ntmps53
 go_wp2_with fail
 go_loopw [13] (fun v13 wr => v13=.int .i64 0 ∧ Below w.heap.size w wr ∧ Blk wr w.heap.size 37 #[.string ⟨#[]⟩,.slice none 0 0]) (fun _ _ => 0)
 case atStart => exact ⟨rfl,((HB.out.alloc (by have:=HS.out; omega) _).alloc (by rw [World.size_alloc]; have:=HS.out; omega) _),(HX.out.alloc _).alloc _⟩
 case round =>
  obtain ⟨rfl,hb,hx⟩:=hrel
  have cx:=(hx.cell 1).trans (show _=some (Value.slice none 0 0) from rfl)
  have HY:=Lib.hid hb
  clear hb hx
  go_wp2_with fail
  refine (c_Fld0 _ _).mono ?_
  rintro e w1 ⟨rfl,rfl⟩
  go_wp2_with fail
  go_ret
  exact ⟨rfl,HY.out⟩
set_option maxRecDepth 100000 in
set_option maxHeartbeats 400000 in
theorem s_shows0 (w : World) : Calls Tryz.prog 55 #[.agg #[.string ⟨#[]⟩,.slice none 0 0],.slice none 0 0] w (AwkO w) := by
 have hb0:Below w.heap.size w (w.alloc (.cells #[.string ⟨#[]⟩,.slice none 0 0] 37)):=below_al' w _
 have HB:=Lib.hid hb0
 clear hb0
 go_enter Tryz.func55,Tryz.ntmps55
 go_wp2_with fail
 go_loopw [11] (fun v11 wr => v11=.int .i64 0 ∧ Below w.heap.size w wr) (fun _ _ => 0)
 case atStart => exact ⟨rfl,HB.out⟩
 case round =>
  obtain ⟨rfl,hb⟩:=hrel
  have HX:=Lib.hid hb
  clear hb
  go_wp2_with fail
  go_ret
  exact ⟨rfl,HX.out⟩
set_option maxRecDepth 100000 in
set_option maxHeartbeats 400000 in
theorem k_asks1 (c1 : Value) (k n y : Int) (f x : ByteArray) (A : Option Addr) (p c : Nat) (w : World) (h7 : k ≠ 7) : Calls Tryz.prog 93 #[.agg #[.int .i64 k,.int .i64 n,.int .i64 y,.string f,.string x,.slice A p c],c1] w fun e w' => e = .returned (.bool false) ∧ Below w.heap.size w w' := by
 have z1:(k == 7)=false:=by simpa using h7
 have z2:(k != 7)=true:=by simpa using h7
 have HB:=Lib.hid (below_al' w (.cells #[.int .i64 k,.int .i64 n,.int .i64 y,.string f,.string x,.slice A p c] 75))
 clear h7
 go_enter Tryz.func93,Tryz.ntmps93
 go_wp2_with fail
 go_ret
 exact ⟨rfl,HB.out⟩
set_option maxRecDepth 100000 in
set_option maxHeartbeats 400000 in
theorem i_Trm1 (c1 : Value) (g : Nat) (k n y : Int) (f x : ByteArray) (A : Option Addr) (p c : Nat) (w : World) (h7 : k ≠ 7) (hb : Blk w g 75 #[.int .i64 k,.int .i64 n,.int .i64 y,.string f,.string x,.slice A p c]) :
  Calls Tryz.prog 122 #[.slice (some ⟨g,0,none⟩) 1 1,.func (.func 93) #[] #[c1]] w fun e w' => e=.returned (.int .i64 (-1)) ∧ Below w.heap.size w w':=by
 have hc:=fun (W:World) => k_asks1 c1 k n y f x A p c W h7
 have HC:=Lib.hid hc
 have HB:=Lib.hid hb
 clear hc hb h7
 go_enter Tryz.func122,Tryz.ntmps122
 go_wp2_with fail
 go_loopw [8] (fun v8 wr => ∃ i:Nat,i ≤ 1 ∧ v8=.int .i64 (i:Int) ∧ Below w.heap.size w wr) (fun v8 _ => 1 - (intOf v8).toNat)
 case atStart => exact ⟨0,by omega,rfl,Below.refl _ _⟩
 case round =>
  obtain ⟨i,hi,rfl,hbr⟩:=hrel
  rename World => wr
  have HBR:=Lib.hid hbr
  clear hbr
  by_cases hlt:i < 1
  ·obtain rfl:i=0:=by omega
   have hx:=HB.out.below' HBR.out HB.out.lt
   have c0:=(hx.cell 0).trans (show _=some (Value.int .i64 k) from rfl)
   have c1':=(hx.cell 1).trans (show _=some (Value.int .i64 n) from rfl)
   have c2:=(hx.cell 2).trans (show _=some (Value.int .i64 y) from rfl)
   have c3:=(hx.cell 3).trans (show _=some (Value.string f) from rfl)
   have c4:=(hx.cell 4).trans (show _=some (Value.string x) from rfl)
   have c5:=(hx.cell 5).trans (show _=some (Value.slice A p c) from rfl)
   clear hx
   go_wp2_with fail
   refine (HC.out wr).mono ?_
   rintro e w1 ⟨rfl,hb1⟩
   have HB1:=Lib.hid (HBR.out.trans (hb1.mono HBR.out.size))
   clear hb1
   go_wp2_with fail
   go_roundw
   case measure => simp [intOf]
   case rel => exact ⟨1,by omega,by go_num,HB1.out⟩
  ·obtain rfl:i=1:=by omega
   go_wp2_with fail
   go_ret
   exact ⟨rfl,HBR.out⟩
set_option maxRecDepth 100000 in
set_option maxHeartbeats 400000 in
theorem c_Trm1 (c1 : Value) (g : Nat) (k n y : Int) (f x : ByteArray) (A : Option Addr) (p c : Nat) (w : World) (h7 : k ≠ 7) (hb : Blk w g 75 #[.int .i64 k,.int .i64 n,.int .i64 y,.string f,.string x,.slice A p c]) :
  Calls Tryz.prog 92 #[.slice (some ⟨g,0,none⟩) 1 1,.func (.func 93) #[] #[c1]] w fun e w' => e=.returned (.bool false) ∧ Below w.heap.size w w':=by
 have HC:=Lib.hid (i_Trm1 c1 g k n y f x A p c w h7 hb)
 clear h7 hb
 go_enter Tryz.func92,Tryz.ntmps92
 go_wp2_with fail
 refine HC.out.mono ?_
 rintro e w1 ⟨rfl,hb1⟩
 have HB1:=Lib.hid hb1
 clear hb1
 go_wp2_with fail
 go_ret
 exact ⟨rfl,HB1.out⟩
def awS : Stm := ⟨⟨#[120]⟩,0,5,[],[⟨8,0,0,E0,E0,[]⟩],[]⟩
theorem aw_trm : ∀ t ∈ awS.cond,TrmOk t := fun t ht => by
 rw [List.mem_singleton.1 ht]
 exact ⟨by decide,by decide,by decide⟩
theorem aw_root : rightB awS.cond = true := by decide
theorem aw_at {w : World} {g : Nat} {S : Nat → Prop} (hb : Blk w g 75 #[.int .i64 8,.int .i64 0,.int .i64 0,.string ⟨#[]⟩,.string ⟨#[]⟩,.slice none 0 0]) (hS : S g) : TermsAt w S (.slice (some ⟨g,0,none⟩) 1 1) awS.cond :=
 ⟨_,1,1,rfl,rfl,Nat.le_refl _,fun _ => ⟨g,0,rfl,hS,fun k hk => by
  obtain rfl:k=0:=by omega
  exact ⟨hb.cell 0,hb.cell 1,hb.cell 2,hb.cell 3,hb.cell 4,_,hb.cell 5,none,0,0,rfl,rfl,Nat.le_refl _,fun h => absurd h (by omega)⟩⟩⟩
set_option maxRecDepth 100000 in
set_option maxHeartbeats 400000 in
theorem c_Valid1 (g : Nat) (w : World) (hb : Blk w g 75 #[.int .i64 8,.int .i64 0,.int .i64 0,.string ⟨#[]⟩,.string ⟨#[]⟩,.slice none 0 0]) :
  Calls Tryz.prog 91 #[.agg #[.slice (some ⟨g,0,none⟩) 1 1]] w (AwkO w):=by
 have hB:=below_al' w (.cells #[.slice (some ⟨g,0,none⟩) 1 1] 26)
 have hr:=f_Right (.slice (some ⟨g,0,none⟩) 1 1) awS.cond (w.alloc (.cells #[.slice (some ⟨g,0,none⟩) 1 1] 26)).heap.size (w.alloc (.cells #[.slice (some ⟨g,0,none⟩) 1 1] 26)) (aw_at (hb.alloc _) (hb.alloc _).lt) (Nat.le_refl _) (by decide) aw_trm
 rw [aw_root] at hr
 have HB:=Lib.hid hB
 have HR:=Lib.hid hr
 clear hB hr hb
 go_enter Tryz.func91,Tryz.ntmps91
 go_wp2_with fail
 refine HR.out.mono ?_
 rintro e w1 ⟨rfl,hb1⟩
 have HB1:=Lib.hid (HB.out.trans (hb1.mono HB.out.size))
 clear hb1
 go_wp2_with fail
 go_ret
 exact ⟨rfl,HB1.out⟩
set_option maxRecDepth 100000 in
set_option maxHeartbeats 400000 in
theorem s_asks1 (g : Nat) (w : World) (hb : Blk w g 75 #[.int .i64 8,.int .i64 0,.int .i64 0,.string ⟨#[]⟩,.string ⟨#[]⟩,.slice none 0 0]) :
  Calls Tryz.prog 54 #[.agg #[.string ⟨#[]⟩,.slice none 0 0],.agg #[.slice (some ⟨g,0,none⟩) 1 1]] w (AwkO w):=by
 have hB:Below w.heap.size w ((w.alloc (.cells #[.string ⟨#[]⟩,.slice none 0 0] 37)).alloc (.cells #[.slice (some ⟨g,0,none⟩) 1 1] 26)):=((Below.refl _ w).alloc (Nat.le_refl _) _).alloc (by simp) _
 have hc:Blk ((w.alloc (.cells #[.string ⟨#[]⟩,.slice none 0 0] 37)).alloc (.cells #[.slice (some ⟨g,0,none⟩) 1 1] 26)) (w.heap.size+1) 26 #[.slice (some ⟨g,0,none⟩) 1 1]:=by
  have:=Blk.new (w.alloc (.cells #[.string ⟨#[]⟩,.slice none 0 0] 37)) 26 #[.slice (some ⟨g,0,none⟩) 1 1]
  rwa [World.size_alloc] at this
 have HB:=Lib.hid hB
 have HC:=Lib.hid hc
 have HT:=Lib.hid ((hb.alloc (.cells #[.string ⟨#[]⟩,.slice none 0 0] 37)).alloc (.cells #[.slice (some ⟨g,0,none⟩) 1 1] 26))
 clear hB hc hb
 go_enter Tryz.func54,Tryz.ntmps54
 go_wp2_with fail
 refine (c_Valid1 g _ HT.out).mono ?_
 rintro e w1 ⟨rfl,hb1⟩
 have HT1:=Lib.hid (HT.out.below' hb1 HT.out.lt)
 have hc1:=HC.out.below' hb1 HC.out.lt
 have c0:=(hc1.cell 0).trans (show _=some (Value.slice (some ⟨g,0,none⟩) 1 1) from rfl)
 have HB1:=Lib.hid (HB.out.trans (hb1.mono HB.out.size))
 clear hb1 hc1 HT HC
 go_wp2_with fail
 refine (c_Trm1 _ g 8 0 0 ⟨#[]⟩ ⟨#[]⟩ none 0 0 w1 (by decide) HT1.out).mono ?_
 rintro e w2 ⟨rfl,hb2⟩
 have HB2:=Lib.hid (HB1.out.trans (hb2.mono HB1.out.size))
 clear hb2
 go_wp2_with fail
 go_ret
 exact ⟨rfl,HB2.out⟩
set_option maxRecDepth 100000 in
set_option maxHeartbeats 1000000 in
theorem s_Check1 (g : Nat) (w : World) (hb : Blk w g 75 #[.int .i64 8,.int .i64 0,.int .i64 0,.string ⟨#[]⟩,.string ⟨#[]⟩,.slice none 0 0]) :
  Calls Tryz.prog 25 #[.agg #[.string ⟨#[]⟩,.slice none 0 0],.agg #[.string ⟨#[120]⟩,.int .i64 0,.int .i64 5,.slice none 0 0,.slice (some ⟨g,0,none⟩) 1 1,.slice none 0 0]] w fun e w' => e=.returned (.int .i64 0) ∧ Below w.heap.size w w':=by
 have hB:Below w.heap.size w ((w.alloc (.cells #[.string ⟨#[]⟩,.slice none 0 0] 37)).alloc (.cells #[.string ⟨#[120]⟩,.int .i64 0,.int .i64 5,.slice none 0 0,.slice (some ⟨g,0,none⟩) 1 1,.slice none 0 0] 29)):=((Below.refl _ w).alloc (Nat.le_refl _) _).alloc (by simp) _
 have hf:Blk ((w.alloc (.cells #[.string ⟨#[]⟩,.slice none 0 0] 37)).alloc (.cells #[.string ⟨#[120]⟩,.int .i64 0,.int .i64 5,.slice none 0 0,.slice (some ⟨g,0,none⟩) 1 1,.slice none 0 0] 29)) w.heap.size 37 #[.string ⟨#[]⟩,.slice none 0 0]:=(Blk.new w _ _).alloc _
 have hc:Blk ((w.alloc (.cells #[.string ⟨#[]⟩,.slice none 0 0] 37)).alloc (.cells #[.string ⟨#[120]⟩,.int .i64 0,.int .i64 5,.slice none 0 0,.slice (some ⟨g,0,none⟩) 1 1,.slice none 0 0] 29)) (w.heap.size+1) 29 #[.string ⟨#[120]⟩,.int .i64 0,.int .i64 5,.slice none 0 0,.slice (some ⟨g,0,none⟩) 1 1,.slice none 0 0]:=by
  have:=Blk.new (w.alloc (.cells #[.string ⟨#[]⟩,.slice none 0 0] 37)) 29 #[.string ⟨#[120]⟩,.int .i64 0,.int .i64 5,.slice none 0 0,.slice (some ⟨g,0,none⟩) 1 1,.slice none 0 0]
  rwa [World.size_alloc] at this
 have HT:=Lib.hid ((hb.alloc (.cells #[.string ⟨#[]⟩,.slice none 0 0] 37)).alloc (.cells #[.string ⟨#[120]⟩,.int .i64 0,.int .i64 5,.slice none 0 0,.slice (some ⟨g,0,none⟩) 1 1,.slice none 0 0] 29))
 have HK:=Lib.hid (And.intro hB (And.intro hf hc))
 clear hB hf hc hb
 go_enter Tryz.func25,Tryz.ntmps25
 go_wp2_with fail
 refine (v_Empty _).mono ?_
 rintro e w1 ⟨rfl,hb1⟩
 have K1:=Lib.hid (And.intro (HK.out.1.trans (hb1.mono HK.out.1.size)) (And.intro (HK.out.2.1.below' hb1 HK.out.2.1.lt) (HK.out.2.2.below' hb1 HK.out.2.2.lt)))
 have T1:=Lib.hid (HT.out.below' hb1 HT.out.lt)
 clear hb1 HK HT
 have a0:=(K1.out.2.2.cell 0).trans (show _=some (Value.string ⟨#[120]⟩) from rfl)
 have a1:=(K1.out.2.2.cell 1).trans (show _=some (Value.int .i64 0) from rfl)
 have a2:=(K1.out.2.2.cell 2).trans (show _=some (Value.int .i64 5) from rfl)
 have a3:=(K1.out.2.2.cell 3).trans (show _=some (Value.slice none 0 0) from rfl)
 have a5:=(K1.out.2.2.cell 5).trans (show _=some (Value.slice none 0 0) from rfl)
 have b0:=(K1.out.2.1.cell 0).trans (show _=some (Value.string ⟨#[]⟩) from rfl)
 have b1:=(K1.out.2.1.cell 1).trans (show _=some (Value.slice none 0 0) from rfl)
 go_wp2_with fail
 refine (s_answers0 _).mono ?_
 rintro e w2 ⟨rfl,hb2⟩
 have K2:=Lib.hid (And.intro (K1.out.1.trans (hb2.mono K1.out.1.size)) (And.intro (K1.out.2.1.below' hb2 K1.out.2.1.lt) (K1.out.2.2.below' hb2 K1.out.2.2.lt)))
 have T2:=Lib.hid (T1.out.below' hb2 T1.out.lt)
 clear hb2 K1 T1 a0 a1 a2 a3 a5 b0 b1
 have a4:=(K2.out.2.2.cell 4).trans (show _=some (Value.slice (some ⟨g,0,none⟩) 1 1) from rfl)
 have b0:=(K2.out.2.1.cell 0).trans (show _=some (Value.string ⟨#[]⟩) from rfl)
 have b1:=(K2.out.2.1.cell 1).trans (show _=some (Value.slice none 0 0) from rfl)
 go_wp2_with fail
 refine (s_asks1 g _ T2.out).mono ?_
 rintro e w3 ⟨rfl,hb3⟩
 have K3:=Lib.hid (And.intro (K2.out.1.trans (hb3.mono K2.out.1.size)) (And.intro (K2.out.2.1.below' hb3 K2.out.2.1.lt) (K2.out.2.2.below' hb3 K2.out.2.2.lt)))
 clear hb3 K2 T2 a4 b0 b1
 have a5:=(K3.out.2.2.cell 5).trans (show _=some (Value.slice none 0 0) from rfl)
 have b0:=(K3.out.2.1.cell 0).trans (show _=some (Value.string ⟨#[]⟩) from rfl)
 have b1:=(K3.out.2.1.cell 1).trans (show _=some (Value.slice none 0 0) from rfl)
 go_wp2_with fail
 refine (s_shows0 _).mono ?_
 rintro e w4 ⟨rfl,hb4⟩
 have HB4:=Lib.hid (K3.out.1.trans (hb4.mono K3.out.1.size))
 clear hb4
 go_wp2_with fail
 go_ret
 exact ⟨rfl,HB4.out⟩
def numR (i u : Nat) : List UInt8 → Except Int (Nat × Nat)
 | [] => .error 5
 | c :: r => if (i=9 ∧ 1 < c.toNat) ∨ (0 < i ∧ c.toNat=0) then .error 4 else if 128 ≤ c.toNat then numR (i+1) (u+c.toNat % 128*128 ^ i) r else .ok (u+c.toNat % 128*128 ^ i,i+1)
def unz (u : Nat) : Int := if u % 2 = 1 then -((u / 2 : Nat) : Int) - 1 else ((u / 2 : Nat) : Int)
theorem unz_zig (n : Int) : unz (zig n) = n := by
 unfold unz zig
 by_cases h:n < 0
 ·rw [if_pos h,if_pos (by omega)]; omega
 ·rw [if_neg h,if_neg (by omega)]; omega
theorem ofNat_toNat {a : Nat} (h : a < 256) : (UInt8.ofNat a).toNat = a := by
 rw [UInt8.toNat_ofNat']; omega
theorem numR_vk (u : Nat) : ∀ (k : Nat) (r : List UInt8),k ≤ 9 → numR 0 0 (vk u k ++ r) = numR k (u % 128 ^ k) r := by
 intro k
 induction k with
 | zero => intro r _; rw [Nat.pow_zero,Nat.mod_one]; rfl
 | succ k ih =>
  intro r hk
  show numR 0 0 ((vk u k ++ [UInt8.ofNat (u / 128 ^ k % 128+128)]) ++ r)=_
  rw [List.append_assoc,ih _ (by omega)]
  have hc:(UInt8.ofNat (u / 128 ^ k % 128+128)).toNat=u / 128 ^ k % 128+128:=ofNat_toNat (by omega)
  show (if (k=9 ∧ 1 < (UInt8.ofNat (u / 128 ^ k % 128+128)).toNat) ∨ (0 < k ∧ (UInt8.ofNat (u / 128 ^ k % 128+128)).toNat=0) then _ else _)=_
  rw [hc,if_neg (by omega),if_pos (by omega)]
  congr 1
  have e:(u / 128 ^ k % 128+128) % 128=u / 128 ^ k % 128:=by omega
  rw [e,Nat.pow_succ,Nat.mod_mul,Nat.mul_comm (128 ^ k)]
theorem rdN_spec : ∀ f u,u < 128 ^ (f + 1) → (∀ j,j < rdN f u → 128 ≤ u / 128 ^ j) ∧ u / 128 ^ rdN f u < 128 := by
 intro f
 induction f with
 | zero => intro u hu; exact ⟨fun j hj => absurd hj (Nat.not_lt_zero j),by show u / 128 ^ 0 < 128; rw [Nat.pow_zero,Nat.div_one]; simpa using hu⟩
 | succ f ih =>
  intro u hu
  by_cases h:u < 128
  ·have e:rdN (f+1) u=0:=if_pos h
   rw [e]
   exact ⟨fun j hj => absurd hj (Nat.not_lt_zero j),by rw [Nat.pow_zero,Nat.div_one]; exact h⟩
  ·have e:rdN (f+1) u=rdN f (u / 128)+1:=if_neg h
   have hu2:u / 128 < 128 ^ (f+1):=Nat.div_lt_of_lt_mul (by rw [Nat.mul_comm]; rwa [Nat.pow_succ] at hu)
   obtain ⟨h1,h2⟩:=ih (u / 128) hu2
   rw [e]
   refine ⟨fun j hj => ?_,?_⟩
   ·cases j with
    | zero => rw [Nat.pow_zero,Nat.div_one]; omega
    | succ j =>
     have:=h1 j (by omega)
     rwa [Nat.pow_succ,Nat.mul_comm,← Nat.div_div_eq_div_mul]
   ·rwa [Nat.pow_succ,Nat.mul_comm,← Nat.div_div_eq_div_mul]
theorem numR_put (n : Int) (h1 : -9223372036854775808 ≤ n) (h2 : n < 9223372036854775808) (r : List UInt8) : numR 0 0 (putB n ++ r) = .ok (zig n,(putB n).length) := by
 have hz:=zig_lt n h1 h2
 obtain ⟨s1,s2⟩:=rdN_spec 10 (zig n) (Nat.lt_of_lt_of_le hz (by decide))
 have hk:=u_small (zig n) (rdN 10 (zig n)) hz s1
 have hmod:=Nat.div_add_mod (zig n) (128 ^ rdN 10 (zig n))
 have hpl:(putB n).length=rdN 10 (zig n)+1:=by unfold putB; rw [List.length_append,vk_len]; rfl
 rw [hpl]
 unfold putB
 generalize rdN 10 (zig n)=k at *
 generalize zig n=u at *
 rw [List.append_assoc,numR_vk u k _ hk]
 have hc:(UInt8.ofNat (u / 128 ^ k)).toNat=u / 128 ^ k:=ofNat_toNat (by omega)
 show (if (k=9 ∧ 1 < (UInt8.ofNat (u / 128 ^ k)).toNat) ∨ (0 < k ∧ (UInt8.ofNat (u / 128 ^ k)).toNat=0) then _ else if 128 ≤ (UInt8.ofNat (u / 128 ^ k)).toNat then _ else _)=_
 rw [hc]
 have hno:¬ ((k=9 ∧ 1 < u / 128 ^ k) ∨ (0 < k ∧ u / 128 ^ k=0)):=by
  rintro (⟨rfl,h⟩ | ⟨h,h0⟩)
  ·have e:(128:Nat) ^ 9=9223372036854775808:=by decide
   rw [e] at h; omega
  ·obtain ⟨j,rfl⟩:∃ j,k=j+1:=⟨k - 1,by omega⟩
   have:=s1 j (by omega)
   rw [Nat.pow_succ,← Nat.div_div_eq_div_mul] at h0
   omega
 rw [if_neg hno,if_neg (by omega),Nat.mod_eq_of_lt s2,Nat.mul_comm (u / 128 ^ k),Nat.add_comm (u % 128 ^ k),hmod]
theorem numR_bound : ∀ (l : List UInt8) (i u U m : Nat),numR i u l = .ok (U,m) → i ≤ 9 → u < 128 ^ i → U < 18446744073709551616 ∧ i < m ∧ m ≤ i + l.length ∧ m ≤ 10
 | [],i,u,U,m,h,_,_ => by cases h
 | c :: r,i,u,U,m,h,hi,hu => by
  unfold numR at h
  by_cases h1:(i=9 ∧ 1 < c.toNat) ∨ (0 < i ∧ c.toNat=0)
  ·rw [if_pos h1] at h; cases h
  rw [if_neg h1] at h
  have hp:c.toNat % 128*128 ^ i+u < 128 ^ (i+1):=by
   have:c.toNat % 128 ≤ 127:=by omega
   have h3:c.toNat % 128*128 ^ i ≤ 127*128 ^ i:=Nat.mul_le_mul_right _ this
   rw [Nat.pow_succ]; omega
  by_cases h2:128 ≤ c.toNat
  ·rw [if_pos h2] at h
   have h9:i ≠ 9:=fun e => h1 (.inl ⟨e,by omega⟩)
   obtain ⟨a,b,d,e⟩:=numR_bound r (i+1) _ U m h (by omega) (by omega)
   exact ⟨a,by omega,by rw [List.length_cons]; omega,e⟩
  ·rw [if_neg h2] at h
   injection h with h
   injection h with e1 e2
   subst e1 e2
   refine ⟨?_,by omega,by rw [List.length_cons]; omega,by omega⟩
   by_cases h9:i=9
   ·subst h9
    have hc:c.toNat ≤ 1:=by
     rcases Nat.lt_or_ge 1 c.toNat with h | h
     ·exact absurd (.inl ⟨rfl,h⟩) h1
     ·exact h
    have e:(128:Nat) ^ 9=9223372036854775808:=by decide
    rw [e] at hu ⊢
    have:c.toNat % 128*9223372036854775808 ≤ 1*9223372036854775808:=Nat.mul_le_mul_right _ (by omega)
    omega
   ·have:(128:Nat) ^ (i+1) ≤ 128 ^ 9:=Nat.pow_le_pow_right (by decide) (by omega)
    have e:(128:Nat) ^ 9=9223372036854775808:=by decide
    omega
def KWordPost (b n : Nat) (ss : Nat → ByteArray) (w : World) (e : Ending) (w' : World) : Prop := ∃ r : Nat,r < n ∧ e = .returned (.string (ss r)) ∧ Dc w' b ∧ w.grownBy w' (some b)
set_option maxHeartbeats 1000000 in
theorem k_WordK (b g off n c : Nat) (ss : Nat → ByteArray) (w : World) (hd : Dc w b) (hg : g < w.heap.size) (hne : g ≠ b) (h1 : 1 ≤ n) (h2 : n ≤ 1000000) (hc : ∀ i,i < n → w.cell? ⟨g,off + i,none⟩ = some (.string (ss i))) :
  Calls Tryz.prog 18 #[.pointer (some ⟨b,0,none⟩),.slice (some ⟨g,off,none⟩) n c] w (KWordPost b n ss w):=by
 have HC:=Lib.hid hc
 have HD:=Lib.hid hd
 clear hc hd
 go_enter Tryz.func18,Tryz.ntmps18
 go_wp2_with fail
 refine (k_Next b n _ HD.out h1 (by omega)).mono ?_
 rintro e w1 ⟨r,hr,rfl,hd1,hg1⟩
 have hcell:w1.cell? ⟨g,off+r,none⟩=some (.string (ss r)):=(World.cell?_of_block (hg1.block g hg (by intro e; injection e with e; exact hne e))).trans (HC.out r hr)
 have HD1:=Lib.hid hd1
 have HG1:=Lib.hid hg1
 have qr:(r:Int) < (n:Int):=by omega
 have q0:(0:Int) ≤ (r:Int):=by omega
 clear hd1 hg1
 go_wp2_with fail
 go_ret
 exact ⟨r,hr,rfl,HD1.out,HG1.out⟩
theorem own_ints {w : World} {B : Nat} {v : Value} {xs : List Int} (h : w.ownsRow B 3 1 v xs.length (xs.map (Value.int .i64))) : IntsAt w (fun b => B ≤ b ∧ b < w.heap.size) v xs := by
 rcases Nat.eq_zero_or_pos xs.length with h0 | h0
 ·rcases h.2 with ⟨rfl,_⟩ | ⟨g',cap,cur,rfl,_,_,h2,_⟩
  ·exact ⟨none,0,0,rfl,h0.symm,by omega,fun h1 => absurd h1 (by omega)⟩
  ·exact ⟨_,xs.length,cap,rfl,rfl,h2,fun h1 => absurd h1 (by omega)⟩
 ·obtain ⟨g,c,rfl,hg,hlt⟩:=h.form h0
  refine ⟨some ⟨g,0,none⟩,xs.length,c,rfl,rfl,?_,fun _ => ⟨g,0,rfl,⟨hg,hlt⟩,fun k hk => ?_⟩⟩
  ·rcases h.2 with ⟨h1,_⟩ | ⟨g',cap,cur,h1,_,_,h2,_⟩
   ·cases h1
   ·injection h1 with _ _ h1; omega
  ·rw [Nat.zero_add]
   exact own_cell h k _ (by rw [List.getElem?_map,List.getElem?_eq_getElem hk,List.getD_eq_getElem?_getD,List.getElem?_eq_getElem hk]; rfl)
theorem OwnTs.terms {w : World} {B : Nat} {v : Value} {L : List Trm} {us : Nat → Value} (h : OwnTs w B v L us) : TermsAt w (fun b => B ≤ b ∧ b < w.heap.size) v L := by
 rcases Nat.eq_zero_or_pos L.length with h0 | h0
 ·rcases h.row.2 with ⟨rfl,_⟩ | ⟨g',cap,cur,rfl,_,_,h2,_⟩
  ·exact ⟨none,0,0,rfl,h0.symm,by omega,fun h1 => absurd h1 (by omega)⟩
  ·exact ⟨_,L.length,cap,rfl,rfl,h2,fun h1 => absurd h1 (by omega)⟩
 ·obtain ⟨g,c,rfl,hg,hlt⟩:=h.row.form h0
  refine ⟨some ⟨g,0,none⟩,L.length,c,rfl,rfl,?_,fun _ => ⟨g,0,rfl,⟨hg,hlt⟩,fun k hk => ?_⟩⟩
  ·rcases h.row.2 with ⟨h1,_⟩ | ⟨g',cap,cur,h1,_,_,h2,_⟩
   ·cases h1
   ·injection h1 with _ _ h1; omega
  ·have hc:∀ i u,i < 6 → (tmCell (trmAt L k) (us k)).getD i undef=u → w.cell? ⟨g,0+k*6+i,none⟩=some u:=by
    intro i u hi hu
    rw [Nat.zero_add]
    exact own_cell h.row (k*6+i) u (by rw [tmsC_at L us k i hk hi,hu])
   refine ⟨hc 0 _ (by decide) rfl,hc 1 _ (by decide) rfl,hc 2 _ (by decide) rfl,hc 3 _ (by decide) rfl,hc 4 _ (by decide) rfl,us k,hc 5 _ (by decide) rfl,?_⟩
   exact own_ints (h.args k hk)
def Rd (w : World) (rb : Nat) (s : ByteArray) (r : List UInt8) : Prop := ∃ p : Nat,Blk w rb 177 #[.string s,.int .i64 (p : Int)] ∧ p ≤ s.size ∧ (blOf s).drop p = r
theorem Rd.lt {w : World} {rb : Nat} {s : ByteArray} {r : List UInt8} (h : Rd w rb s r) : rb < w.heap.size := by obtain ⟨p,hb,_⟩ := h; exact hb.lt
theorem Rd.keep {w w' : World} {rb : Nat} {s : ByteArray} {r : List UInt8} (h : Rd w rb s r) (hk : w'.heap[rb]? = w.heap[rb]?) : Rd w' rb s r := by
 obtain ⟨p,hb,h1,h2⟩:=h; exact ⟨p,hk.trans hb,h1,h2⟩
def posR (s : ByteArray) (r : List UInt8) : Nat := s.size - r.length
theorem Rd.pos {w : World} {rb : Nat} {s : ByteArray} {r : List UInt8} (h : Rd w rb s r) : Blk w rb 177 #[.string s,.int .i64 (posR s r : Int)] ∧ posR s r ≤ s.size ∧ (blOf s).drop (posR s r) = r ∧ r.length ≤ s.size := by
 obtain ⟨p,hb,h1,h2⟩:=h
 have hl:r.length=s.size - p:=by rw [← h2,List.length_drop,blOf_len]
 have e:posR s r=p:=by unfold posR; omega
 rw [e]; exact ⟨hb,h1,h2,by omega⟩
theorem drop_cons {s : ByteArray} {p : Nat} (h : p < s.size) : (blOf s).drop p = s[p] :: (blOf s).drop (p + 1) := by
 rw [List.drop_eq_getElem_cons (by rw [blOf_len]; exact h)]; rfl
def wrongCh (p : Int) : List PanicEntry := [{ v := .iface 178 (.int .i64 p),recovered := false }]
set_option maxHeartbeats 1000000 in
theorem f_fail (rb p : Nat) (s : ByteArray) (w : World) (hb : Blk w rb 177 #[.string s,.int .i64 (p : Int)]) :
  Calls Tryz.prog 130 #[.pointer (some ⟨rb,0,none⟩)] w fun e w' => e=.panicked (wrongCh p) ∧ w=w':=by
 have c1:=(hb.cell 1).trans (show _=some (Value.int .i64 (p:Int)) from rfl)
 go_enter Tryz.func130,Tryz.ntmps130
 go_wp2_with fail
 exact ⟨rfl,rfl,rfl⟩
def farR (w : World) (rb n : Nat) : Nat := match w.cell? ⟨rb,1,none⟩ with
 | some (.int _ p) => n - p.toNat
 | _ => 0
theorem farR_of {w : World} {rb n p : Nat} (h : w.cell? ⟨rb,1,none⟩ = some (.int .i64 (p : Int))) : farR w rb n = n - p := by unfold farR; rw [h]; simp
def ReadPost (w : World) (rb : Nat) (s : ByteArray) (r : List UInt8) (e : Ending) (w' : World) : Prop := e = .returned (.tuple #[]) ∧ Rd w' rb s r ∧ w.grownBy w' (some rb)
theorem grown_drewN (w : World) (n : Nat) (row : Option Nat) : w.grownBy (w.drewN n) row := ⟨rfl,rfl,rfl,Nat.le_refl _,fun _ _ _ => rfl⟩
theorem space_cons_sp {c : UInt8} {q : List UInt8} (h : spB c = true) : spaceB (c :: q) = spaceB q := by unfold spaceB; rw [List.dropWhile_cons,if_pos h]
theorem u8_ne {c : UInt8} {n : Nat} (hn : n < 256) (h : c ≠ UInt8.ofNat n) : ((c.toNat : Int) == (n : Int)) = false := by
 rw [beq_eq_false_iff_ne]
 intro e
 apply h
 apply UInt8.toNat_inj.1
 rw [UInt8.toNat_ofNat_of_lt' (by simpa using hn)]; omega
theorem rd_step {wr : World} {rb p : Nat} {s : ByteArray} (hb : Blk wr rb 177 #[.string s,.int .i64 (p : Int)]) (q : Nat) : Blk ((wr.drewN q).setCell ⟨rb,1,none⟩ (.int .i64 ((p : Int) + 1))) rb 177 #[.string s,.int .i64 ((p + 1 : Nat) : Int)] := (hb.drewN q).set_ 1 (.int .i64 ((p : Int) + 1))
theorem grown_set (w : World) (p : Addr) (v : Value) : w.grownBy (w.setCell p v) (some p.block) :=
 ⟨rfl,rfl,rfl,by simp [World.setCell],fun i _ hn => Below.heap_setCell w p v i (fun e => hn (by rw [e]))⟩
set_option maxRecDepth 100000 in
set_option maxHeartbeats 2000000 in
theorem f_space (rb : Nat) (s : ByteArray) (r : List UInt8) (w : World) (hr : Rd w rb s r) (hs : s.size ≤ 100000) :
  Calls Tryz.prog 128 #[.pointer (some ⟨rb,0,none⟩)] w (ReadPost w rb s (spaceB r)):=by
 have HR:=Lib.hid hr
 clear hr
 go_enter Tryz.func128,Tryz.ntmps128
 go_wp2_with fail
 go_loopw [5] (fun v5 wr => ∃ r',Rd wr rb s r' ∧ spaceB r'=spaceB r ∧ w.grownBy wr (some rb)) (fun _ wr => farR wr rb s.size)
 case atStart => exact ⟨r,HR.out,rfl,World.grownBy.refl _ _⟩
 case round =>
  obtain ⟨r',hrd,hsp,hg⟩:=hrel
  obtain ⟨p,hb,hp,hdr⟩:=hrd
  have c0:=(hb.cell 0).trans (show _=some (Value.string s) from rfl)
  have c1:=(hb.cell 1).trans (show _=some (Value.int .i64 (p:Int)) from rfl)
  have f1:=hb.frozen 1
  have HB:=Lib.hid hb
  have HSP:=Lib.hid hsp
  have HG:=Lib.hid hg
  clear hb hsp hg
  have zp:(0:Int) ≤ (p:Int):=by omega
  by_cases hlt:p < s.size
  ·have hd:=drop_cons hlt
   rw [hdr] at hd
   have q1:(p:Int) < (s.size:Int):=by omega
   have q2:decide ((p:Int) < (s.size:Int))=true:=by simpa using hlt
   have q3:decide (p < s.size)=true:=by simpa using hlt
   have HD:=Lib.hid hd
   have HDR:=Lib.hid hdr
   clear hd hdr
   by_cases h32:s[p]=32
   ·have t1:((s[p].toNat:Int) == 32)=true:=by rw [h32]; rfl
    have H32:=Lib.hid h32
    clear h32
    have HSPC:spB s[p]=true:=by rw [H32.out]; rfl
    have HSPC:=Lib.hid HSPC
    go_wp2_with fail
    go_quiet (fail)
    go_wp2_with fail
    go_roundw
    case measure =>
     rw [farR_of c1,farR_of (p:=p+1) (((rd_step HB.out _).cell 1).trans rfl)]; omega
    case rel =>
     refine ⟨_,⟨p+1,rd_step HB.out _,by omega,rfl⟩,?_,HG.out.trans ((grown_drewN _ _ _).trans (grown_set _ _ _))⟩
     rw [← HSP.out,HD.out]; exact (space_cons_sp HSPC.out).symm
   ·have t1:((s[p].toNat:Int) == 32)=false:=u8_ne (n:=32) (by decide) h32
    by_cases h10:s[p]=10
    ·have t2:((s[p].toNat:Int) == 10)=true:=by rw [h10]; rfl
     have HSPC:spB s[p]=true:=by rw [h10]; rfl
     have HSPC:=Lib.hid HSPC
     clear h32 h10
     go_wp2_with fail
     go_quiet (fail)
     go_wp2_with fail
     go_roundw
     case measure =>
      rw [farR_of c1,farR_of (p:=p+1) (((rd_step HB.out _).cell 1).trans rfl)]; omega
     case rel =>
      refine ⟨_,⟨p+1,rd_step HB.out _,by omega,rfl⟩,?_,HG.out.trans ((grown_drewN _ _ _).trans (grown_set _ _ _))⟩
      rw [← HSP.out,HD.out]; exact (space_cons_sp HSPC.out).symm
    ·have t2:((s[p].toNat:Int) == 10)=false:=u8_ne (n:=10) (by decide) h10
     have hsp0:spB s[p]=false:=by simp [spB,h32,h10]
     have HS0:=Lib.hid hsp0
     clear h32 h10 hsp0
     go_wp2_with fail
     go_quiet (fail)
     go_wp2_with fail
     go_end0
     refine ⟨rfl,?_,HG.out.trans (grown_drewN _ _ _)⟩
     have e:spaceB r=r':=by rw [← HSP.out,HD.out]; exact space_stop (.inr HS0.out)
     rw [e]
     exact ⟨p,HB.out,hp,HDR.out⟩
  ·have hpe:p=s.size:=by omega
   have q1:¬ (p:Int) < (s.size:Int):=by omega
   have q2:decide ((p:Int) < (s.size:Int))=false:=by simpa using hlt
   have q3:decide (p < s.size)=false:=by simpa using hlt
   have hr0:r' = []:=by rw [← hdr]; exact List.drop_eq_nil_of_le (by rw [blOf_len]; omega)
   have HR0:=Lib.hid hr0
   have HDR:=Lib.hid hdr
   clear hr0 hdr hpe
   go_wp2_with fail
   go_quiet (fail)
   go_wp2_with fail
   go_end0
   refine ⟨rfl,?_,HG.out.trans (grown_drewN _ _ _)⟩
   have e:spaceB r=r':=by rw [← HSP.out,HR0.out]; rfl
   rw [e]
   exact ⟨p,HB.out,hp,HDR.out⟩
end Go.Proofs.YtgdngfdeeadlnaaGreatDoor
