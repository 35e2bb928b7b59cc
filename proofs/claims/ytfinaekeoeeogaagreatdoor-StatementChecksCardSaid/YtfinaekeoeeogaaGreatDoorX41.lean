/- Contracts: statement.Check's parts on the empty form. And more. -/
import Derived.Test.YtfinaekeoeeogaaGreatDoorX14
import Derived.Test.YtfinaekeoeeogaaGreatDoorX40
import Derived.BigRegion
import Derived.Test.YtfinaekeoeeogaaGreatDoorX04
import Derived.Test.YtfinaekeoeeogaaGreatDoorX09
import Derived.Test.YtfinaekeoeeogaaGreatDoorX33
set_option linter.unusedVariables false
set_option linter.unusedSimpArgs false
namespace Go.Proofs.YtfinaekeoeeogaaGreatDoor
open Go.RowKit Num
set_option maxRecDepth 100000 in
set_option maxHeartbeats 400000 in
theorem v_Empty (w : World) : Calls Tryz.prog 22 #[.agg #[.string ⟨#[]⟩,.slice none 0 0]] w (AwkO w) := by
 have hb0:Below w.heap.size w (w.alloc (.cells #[.string ⟨#[]⟩,.slice none 0 0] 37)):=below_al' w _
 have HB:=Lib.hid hb0
 clear hb0
 go_enter Tryz.func22,Tryz.ntmps22
 go_wp2_with fail
 go_loopw [20] (fun v20 wr => v20=.int .i64 0 ∧ Below w.heap.size w wr) (fun _ _ => 0)
 case atStart => exact ⟨rfl,HB.out⟩
 case round =>
  obtain ⟨rfl,hb⟩:=hrel
  have HX:=Lib.hid hb
  clear hb
  go_wp2_with fail
  go_ret
  exact ⟨rfl,HX.out⟩
set_option maxRecDepth 100000 in
set_option maxHeartbeats 400000 in
theorem i_Fld0 (fv : Value) (w : World) : Calls Tryz.prog 71 #[.slice none 0 0,fv] w fun e w' => e = .returned (.int .i64 (-1)) ∧ w = w' := by
 go_enter Tryz.func71,Tryz.ntmps71
 go_wp2_with fail
 go_loopw [8] (fun vi wr => vi=.int .i64 0 ∧ w=wr) (fun _ _ => 0)
 case atStart => exact ⟨rfl,rfl⟩
 case round =>
  obtain ⟨rfl,rfl⟩:=hrel
  go_wp2_with fail
  go_ret
  exact ⟨rfl,rfl⟩
set_option maxRecDepth 100000 in
set_option maxHeartbeats 400000 in
theorem c_Fld0 (fv : Value) (w : World) : Calls Tryz.prog 52 #[.slice none 0 0,fv] w fun e w' => e = .returned (.bool false) ∧ w = w' := by
 go_enter Tryz.func52,Tryz.ntmps52
 go_wp2_with fail
 refine (i_Fld0 fv w).mono ?_
 rintro e w1 ⟨rfl,rfl⟩
 go_wp2_with fail
 go_ret
 exact ⟨rfl,rfl⟩
set_option maxRecDepth 100000 in
set_option maxHeartbeats 400000 in
theorem s_answers0 (w : World) : Calls Tryz.prog 23 #[.agg #[.string ⟨#[]⟩,.slice none 0 0],.slice none 0 0] w (AwkO w) := by
 have hmm:=@run_makeMap Tryz.prog
 have hb0:Below w.heap.size w (w.alloc (.cells #[.string ⟨#[]⟩,.slice none 0 0] 37)):=below_al' w _
 have hbx:Blk (w.alloc (.cells #[.string ⟨#[]⟩,.slice none 0 0] 37)) w.heap.size 37 #[.string ⟨#[]⟩,.slice none 0 0]:=Blk.new w _ _
 have hsz:(w.alloc (.cells #[.string ⟨#[]⟩,.slice none 0 0] 37)).heap.size=w.heap.size+1:=World.size_alloc _ _
 have HB:=Lib.hid hb0
 have HX:=Lib.hid hbx
 have HS:=Lib.hid hsz
 clear hb0 hbx hsz
 go_enter Tryz.func23,Tryz.ntmps23
 go_wp2_with fail
 go_loopw [13] (fun v13 wr => v13=.int .i64 0 ∧ Below w.heap.size w wr ∧ Blk wr w.heap.size 37 #[.string ⟨#[]⟩,.slice none 0 0]) (fun _ _ => 0)
 case atStart => exact ⟨rfl,((HB.out.alloc (by have:=HS.out; omega) _).alloc (by rw [World.size_alloc]; have:=HS.out; omega) _),(HX.out.alloc _).alloc _⟩
 case round =>
  obtain ⟨rfl,hb,hx⟩:=hrel
  have cx:=(hx.cell 1).trans (show _=some (Value.slice none 0 0) from rfl)
  have HY:=Lib.hid hb
  clear hb hx
  go_wp2_with fail
  refine (c_Fld0 _ _).mono ?_
  rintro e w1 ⟨rfl,rfl⟩
  go_wp2_with fail
  go_ret
  exact ⟨rfl,HY.out⟩
set_option maxRecDepth 100000 in
set_option maxHeartbeats 400000 in
theorem s_shows0 (w : World) : Calls Tryz.prog 25 #[.agg #[.string ⟨#[]⟩,.slice none 0 0],.slice none 0 0] w (AwkO w) := by
 have hb0:Below w.heap.size w (w.alloc (.cells #[.string ⟨#[]⟩,.slice none 0 0] 37)):=below_al' w _
 have HB:=Lib.hid hb0
 clear hb0
 go_enter Tryz.func25,Tryz.ntmps25
 go_wp2_with fail
 go_loopw [11] (fun v11 wr => v11=.int .i64 0 ∧ Below w.heap.size w wr) (fun _ _ => 0)
 case atStart => exact ⟨rfl,HB.out⟩
 case round =>
  obtain ⟨rfl,hb⟩:=hrel
  have HX:=Lib.hid hb
  clear hb
  go_wp2_with fail
  go_ret
  exact ⟨rfl,HX.out⟩
set_option maxRecDepth 100000 in
set_option maxHeartbeats 400000 in
theorem k_asks1 (c1 : Value) (k n y : Int) (f x : ByteArray) (A : Option Addr) (p c : Nat) (w : World) (h7 : k ≠ 7) : Calls Tryz.prog 56 #[.agg #[.int .i64 k,.int .i64 n,.int .i64 y,.string f,.string x,.slice A p c],c1] w fun e w' => e = .returned (.bool false) ∧ Below w.heap.size w w' := by
 have z1:(k == 7)=false:=by simpa using h7
 have z2:(k != 7)=true:=by simpa using h7
 have HB:=Lib.hid (below_al' w (.cells #[.int .i64 k,.int .i64 n,.int .i64 y,.string f,.string x,.slice A p c] 51))
 clear h7
 go_enter Tryz.func56,Tryz.ntmps56
 go_wp2_with fail
 go_ret
 exact ⟨rfl,HB.out⟩
set_option maxRecDepth 100000 in
set_option maxHeartbeats 400000 in
theorem i_Trm1 (c1 : Value) (g : Nat) (k n y : Int) (f x : ByteArray) (A : Option Addr) (p c : Nat) (w : World) (h7 : k ≠ 7) (hb : Blk w g 51 #[.int .i64 k,.int .i64 n,.int .i64 y,.string f,.string x,.slice A p c]) :
  Calls Tryz.prog 77 #[.slice (some ⟨g,0,none⟩) 1 1,.func (.func 56) #[] #[c1]] w fun e w' => e=.returned (.int .i64 (-1)) ∧ Below w.heap.size w w':=by
 have hc:=fun (W:World) => k_asks1 c1 k n y f x A p c W h7
 have HC:=Lib.hid hc
 have HB:=Lib.hid hb
 clear hc hb h7
 go_enter Tryz.func77,Tryz.ntmps77
 go_wp2_with fail
 go_loopw [8] (fun v8 wr => ∃ i:Nat,i ≤ 1 ∧ v8=.int .i64 (i:Int) ∧ Below w.heap.size w wr) (fun v8 _ => 1 - (intOf v8).toNat)
 case atStart => exact ⟨0,by omega,rfl,Below.refl _ _⟩
 case round =>
  obtain ⟨i,hi,rfl,hbr⟩:=hrel
  rename World => wr
  have HBR:=Lib.hid hbr
  clear hbr
  by_cases hlt:i < 1
  ·obtain rfl:i=0:=by omega
   have hx:=HB.out.below' HBR.out HB.out.lt
   have c0:=(hx.cell 0).trans (show _=some (Value.int .i64 k) from rfl)
   have c1':=(hx.cell 1).trans (show _=some (Value.int .i64 n) from rfl)
   have c2:=(hx.cell 2).trans (show _=some (Value.int .i64 y) from rfl)
   have c3:=(hx.cell 3).trans (show _=some (Value.string f) from rfl)
   have c4:=(hx.cell 4).trans (show _=some (Value.string x) from rfl)
   have c5:=(hx.cell 5).trans (show _=some (Value.slice A p c) from rfl)
   clear hx
   go_wp2_with fail
   refine (HC.out wr).mono ?_
   rintro e w1 ⟨rfl,hb1⟩
   have HB1:=Lib.hid (HBR.out.trans (hb1.mono HBR.out.size))
   clear hb1
   go_wp2_with fail
   go_roundw
   case measure => simp [intOf]
   case rel => exact ⟨1,by omega,by go_num,HB1.out⟩
  ·obtain rfl:i=1:=by omega
   go_wp2_with fail
   go_ret
   exact ⟨rfl,HBR.out⟩
set_option maxRecDepth 100000 in
set_option maxHeartbeats 400000 in
theorem c_Trm1 (c1 : Value) (g : Nat) (k n y : Int) (f x : ByteArray) (A : Option Addr) (p c : Nat) (w : World) (h7 : k ≠ 7) (hb : Blk w g 51 #[.int .i64 k,.int .i64 n,.int .i64 y,.string f,.string x,.slice A p c]) :
  Calls Tryz.prog 55 #[.slice (some ⟨g,0,none⟩) 1 1,.func (.func 56) #[] #[c1]] w fun e w' => e=.returned (.bool false) ∧ Below w.heap.size w w':=by
 have HC:=Lib.hid (i_Trm1 c1 g k n y f x A p c w h7 hb)
 clear h7 hb
 go_enter Tryz.func55,Tryz.ntmps55
 go_wp2_with fail
 refine HC.out.mono ?_
 rintro e w1 ⟨rfl,hb1⟩
 have HB1:=Lib.hid hb1
 clear hb1
 go_wp2_with fail
 go_ret
 exact ⟨rfl,HB1.out⟩
def awS : Stm := ⟨⟨#[120]⟩,0,5,[],[⟨8,0,0,E0,E0,[]⟩],[]⟩
theorem aw_trm : ∀ t ∈ awS.cond,TrmOk t := fun t ht => by
 rw [List.mem_singleton.1 ht]
 exact ⟨by decide,by decide,by decide⟩
theorem aw_root : rightB awS.cond = true := by decide
theorem aw_at {w : World} {g : Nat} {S : Nat → Prop} (hb : Blk w g 51 #[.int .i64 8,.int .i64 0,.int .i64 0,.string ⟨#[]⟩,.string ⟨#[]⟩,.slice none 0 0]) (hS : S g) : TermsAt w S (.slice (some ⟨g,0,none⟩) 1 1) awS.cond :=
 ⟨_,1,1,rfl,rfl,Nat.le_refl _,fun _ => ⟨g,0,rfl,hS,fun k hk => by
  obtain rfl:k=0:=by omega
  exact ⟨hb.cell 0,hb.cell 1,hb.cell 2,hb.cell 3,hb.cell 4,_,hb.cell 5,none,0,0,rfl,rfl,Nat.le_refl _,fun h => absurd h (by omega)⟩⟩⟩
set_option maxRecDepth 100000 in
set_option maxHeartbeats 400000 in
theorem c_Valid1 (g : Nat) (w : World) (hb : Blk w g 51 #[.int .i64 8,.int .i64 0,.int .i64 0,.string ⟨#[]⟩,.string ⟨#[]⟩,.slice none 0 0]) :
  Calls Tryz.prog 54 #[.agg #[.slice (some ⟨g,0,none⟩) 1 1]] w (AwkO w):=by
 have hB:=below_al' w (.cells #[.slice (some ⟨g,0,none⟩) 1 1] 26)
 have hr:=f_Right (.slice (some ⟨g,0,none⟩) 1 1) awS.cond (w.alloc (.cells #[.slice (some ⟨g,0,none⟩) 1 1] 26)).heap.size (w.alloc (.cells #[.slice (some ⟨g,0,none⟩) 1 1] 26)) (aw_at (hb.alloc _) (hb.alloc _).lt) (Nat.le_refl _) (by decide) aw_trm
 rw [aw_root] at hr
 have HB:=Lib.hid hB
 have HR:=Lib.hid hr
 clear hB hr hb
 go_enter Tryz.func54,Tryz.ntmps54
 go_wp2_with fail
 refine HR.out.mono ?_
 rintro e w1 ⟨rfl,hb1⟩
 have HB1:=Lib.hid (HB.out.trans (hb1.mono HB.out.size))
 clear hb1
 go_wp2_with fail
 go_ret
 exact ⟨rfl,HB1.out⟩
set_option maxRecDepth 100000 in
set_option maxHeartbeats 400000 in
theorem s_asks1 (g : Nat) (w : World) (hb : Blk w g 51 #[.int .i64 8,.int .i64 0,.int .i64 0,.string ⟨#[]⟩,.string ⟨#[]⟩,.slice none 0 0]) :
  Calls Tryz.prog 24 #[.agg #[.string ⟨#[]⟩,.slice none 0 0],.agg #[.slice (some ⟨g,0,none⟩) 1 1]] w (AwkO w):=by
 have hB:Below w.heap.size w ((w.alloc (.cells #[.string ⟨#[]⟩,.slice none 0 0] 37)).alloc (.cells #[.slice (some ⟨g,0,none⟩) 1 1] 26)):=((Below.refl _ w).alloc (Nat.le_refl _) _).alloc (by simp) _
 have hc:Blk ((w.alloc (.cells #[.string ⟨#[]⟩,.slice none 0 0] 37)).alloc (.cells #[.slice (some ⟨g,0,none⟩) 1 1] 26)) (w.heap.size+1) 26 #[.slice (some ⟨g,0,none⟩) 1 1]:=by
  have:=Blk.new (w.alloc (.cells #[.string ⟨#[]⟩,.slice none 0 0] 37)) 26 #[.slice (some ⟨g,0,none⟩) 1 1]
  rwa [World.size_alloc] at this
 have HB:=Lib.hid hB
 have HC:=Lib.hid hc
 have HT:=Lib.hid ((hb.alloc (.cells #[.string ⟨#[]⟩,.slice none 0 0] 37)).alloc (.cells #[.slice (some ⟨g,0,none⟩) 1 1] 26))
 clear hB hc hb
 go_enter Tryz.func24,Tryz.ntmps24
 go_wp2_with fail
 refine (c_Valid1 g _ HT.out).mono ?_
 rintro e w1 ⟨rfl,hb1⟩
 have HT1:=Lib.hid (HT.out.below' hb1 HT.out.lt)
 have hc1:=HC.out.below' hb1 HC.out.lt
 have c0:=(hc1.cell 0).trans (show _=some (Value.slice (some ⟨g,0,none⟩) 1 1) from rfl)
 have HB1:=Lib.hid (HB.out.trans (hb1.mono HB.out.size))
 clear hb1 hc1 HT HC
 go_wp2_with fail
 refine (c_Trm1 _ g 8 0 0 ⟨#[]⟩ ⟨#[]⟩ none 0 0 w1 (by decide) HT1.out).mono ?_
 rintro e w2 ⟨rfl,hb2⟩
 have HB2:=Lib.hid (HB1.out.trans (hb2.mono HB1.out.size))
 clear hb2
 go_wp2_with fail
 go_ret
 exact ⟨rfl,HB2.out⟩
set_option maxRecDepth 100000 in
set_option maxHeartbeats 1000000 in
theorem s_Check1 (g : Nat) (w : World) (hb : Blk w g 51 #[.int .i64 8,.int .i64 0,.int .i64 0,.string ⟨#[]⟩,.string ⟨#[]⟩,.slice none 0 0]) :
  Calls Tryz.prog 11 #[.agg #[.string ⟨#[]⟩,.slice none 0 0],.agg #[.string ⟨#[120]⟩,.int .i64 0,.int .i64 5,.slice none 0 0,.slice (some ⟨g,0,none⟩) 1 1,.slice none 0 0]] w fun e w' => e=.returned (.int .i64 0) ∧ Below w.heap.size w w':=by
 have hB:Below w.heap.size w ((w.alloc (.cells #[.string ⟨#[]⟩,.slice none 0 0] 37)).alloc (.cells #[.string ⟨#[120]⟩,.int .i64 0,.int .i64 5,.slice none 0 0,.slice (some ⟨g,0,none⟩) 1 1,.slice none 0 0] 29)):=((Below.refl _ w).alloc (Nat.le_refl _) _).alloc (by simp) _
 have hf:Blk ((w.alloc (.cells #[.string ⟨#[]⟩,.slice none 0 0] 37)).alloc (.cells #[.string ⟨#[120]⟩,.int .i64 0,.int .i64 5,.slice none 0 0,.slice (some ⟨g,0,none⟩) 1 1,.slice none 0 0] 29)) w.heap.size 37 #[.string ⟨#[]⟩,.slice none 0 0]:=(Blk.new w _ _).alloc _
 have hc:Blk ((w.alloc (.cells #[.string ⟨#[]⟩,.slice none 0 0] 37)).alloc (.cells #[.string ⟨#[120]⟩,.int .i64 0,.int .i64 5,.slice none 0 0,.slice (some ⟨g,0,none⟩) 1 1,.slice none 0 0] 29)) (w.heap.size+1) 29 #[.string ⟨#[120]⟩,.int .i64 0,.int .i64 5,.slice none 0 0,.slice (some ⟨g,0,none⟩) 1 1,.slice none 0 0]:=by
  have:=Blk.new (w.alloc (.cells #[.string ⟨#[]⟩,.slice none 0 0] 37)) 29 #[.string ⟨#[120]⟩,.int .i64 0,.int .i64 5,.slice none 0 0,.slice (some ⟨g,0,none⟩) 1 1,.slice none 0 0]
  rwa [World.size_alloc] at this
 have HT:=Lib.hid ((hb.alloc (.cells #[.string ⟨#[]⟩,.slice none 0 0] 37)).alloc (.cells #[.string ⟨#[120]⟩,.int .i64 0,.int .i64 5,.slice none 0 0,.slice (some ⟨g,0,none⟩) 1 1,.slice none 0 0] 29))
 have HK:=Lib.hid (And.intro hB (And.intro hf hc))
 clear hB hf hc hb
 go_enter Tryz.func11,Tryz.ntmps11
 go_wp2_with fail
 refine (v_Empty _).mono ?_
 rintro e w1 ⟨rfl,hb1⟩
 have K1:=Lib.hid (And.intro (HK.out.1.trans (hb1.mono HK.out.1.size)) (And.intro (HK.out.2.1.below' hb1 HK.out.2.1.lt) (HK.out.2.2.below' hb1 HK.out.2.2.lt)))
 have T1:=Lib.hid (HT.out.below' hb1 HT.out.lt)
 clear hb1 HK HT
 have a0:=(K1.out.2.2.cell 0).trans (show _=some (Value.string ⟨#[120]⟩) from rfl)
 have a1:=(K1.out.2.2.cell 1).trans (show _=some (Value.int .i64 0) from rfl)
 have a2:=(K1.out.2.2.cell 2).trans (show _=some (Value.int .i64 5) from rfl)
 have a3:=(K1.out.2.2.cell 3).trans (show _=some (Value.slice none 0 0) from rfl)
 have a5:=(K1.out.2.2.cell 5).trans (show _=some (Value.slice none 0 0) from rfl)
 have b0:=(K1.out.2.1.cell 0).trans (show _=some (Value.string ⟨#[]⟩) from rfl)
 have b1:=(K1.out.2.1.cell 1).trans (show _=some (Value.slice none 0 0) from rfl)
 go_wp2_with fail
 refine (s_answers0 _).mono ?_
 rintro e w2 ⟨rfl,hb2⟩
 have K2:=Lib.hid (And.intro (K1.out.1.trans (hb2.mono K1.out.1.size)) (And.intro (K1.out.2.1.below' hb2 K1.out.2.1.lt) (K1.out.2.2.below' hb2 K1.out.2.2.lt)))
 have T2:=Lib.hid (T1.out.below' hb2 T1.out.lt)
 clear hb2 K1 T1 a0 a1 a2 a3 a5 b0 b1
 have a4:=(K2.out.2.2.cell 4).trans (show _=some (Value.slice (some ⟨g,0,none⟩) 1 1) from rfl)
 have b0:=(K2.out.2.1.cell 0).trans (show _=some (Value.string ⟨#[]⟩) from rfl)
 have b1:=(K2.out.2.1.cell 1).trans (show _=some (Value.slice none 0 0) from rfl)
 go_wp2_with fail
 refine (s_asks1 g _ T2.out).mono ?_
 rintro e w3 ⟨rfl,hb3⟩
 have K3:=Lib.hid (And.intro (K2.out.1.trans (hb3.mono K2.out.1.size)) (And.intro (K2.out.2.1.below' hb3 K2.out.2.1.lt) (K2.out.2.2.below' hb3 K2.out.2.2.lt)))
 clear hb3 K2 T2 a4 b0 b1
 have a5:=(K3.out.2.2.cell 5).trans (show _=some (Value.slice none 0 0) from rfl)
 have b0:=(K3.out.2.1.cell 0).trans (show _=some (Value.string ⟨#[]⟩) from rfl)
 have b1:=(K3.out.2.1.cell 1).trans (show _=some (Value.slice none 0 0) from rfl)
 go_wp2_with fail
 refine (s_shows0 _).mono ?_
 rintro e w4 ⟨rfl,hb4⟩
 have HB4:=Lib.hid (K3.out.1.trans (hb4.mono K3.out.1.size))
 clear hb4
 go_wp2_with fail
 go_ret
 exact ⟨rfl,HB4.out⟩
def numR (i u : Nat) : List UInt8 → Except Int (Nat × Nat)
 | [] => .error 5
 | c :: r => if (i=9 ∧ 1 < c.toNat) ∨ (0 < i ∧ c.toNat=0) then .error 4 else if 128 ≤ c.toNat then numR (i+1) (u+c.toNat % 128*128 ^ i) r else .ok (u+c.toNat % 128*128 ^ i,i+1)
def unz (u : Nat) : Int := if u % 2 = 1 then -((u / 2 : Nat) : Int) - 1 else ((u / 2 : Nat) : Int)
theorem unz_zig (n : Int) : unz (zig n) = n := by
 unfold unz zig
 by_cases h:n < 0
 ·rw [if_pos h,if_pos (by omega)]; omega
 ·rw [if_neg h,if_neg (by omega)]; omega
theorem ofNat_toNat {a : Nat} (h : a < 256) : (UInt8.ofNat a).toNat = a := by
 rw [UInt8.toNat_ofNat']; omega
theorem numR_vk (u : Nat) : ∀ (k : Nat) (r : List UInt8),k ≤ 9 → numR 0 0 (vk u k ++ r) = numR k (u % 128 ^ k) r := by
 intro k
 induction k with
 | zero => intro r _; rw [Nat.pow_zero,Nat.mod_one]; rfl
 | succ k ih =>
  intro r hk
  show numR 0 0 ((vk u k ++ [UInt8.ofNat (u / 128 ^ k % 128+128)]) ++ r)=_
  rw [List.append_assoc,ih _ (by omega)]
  have hc:(UInt8.ofNat (u / 128 ^ k % 128+128)).toNat=u / 128 ^ k % 128+128:=ofNat_toNat (by omega)
  show (if (k=9 ∧ 1 < (UInt8.ofNat (u / 128 ^ k % 128+128)).toNat) ∨ (0 < k ∧ (UInt8.ofNat (u / 128 ^ k % 128+128)).toNat=0) then _ else _)=_
  rw [hc,if_neg (by omega),if_pos (by omega)]
  congr 1
  have e:(u / 128 ^ k % 128+128) % 128=u / 128 ^ k % 128:=by omega
  rw [e,Nat.pow_succ,Nat.mod_mul,Nat.mul_comm (128 ^ k)]
theorem rdN_spec : ∀ f u,u < 128 ^ (f + 1) → (∀ j,j < rdN f u → 128 ≤ u / 128 ^ j) ∧ u / 128 ^ rdN f u < 128 := by
 intro f
 induction f with
 | zero => intro u hu; exact ⟨fun j hj => absurd hj (Nat.not_lt_zero j),by show u / 128 ^ 0 < 128; rw [Nat.pow_zero,Nat.div_one]; simpa using hu⟩
 | succ f ih =>
  intro u hu
  by_cases h:u < 128
  ·have e:rdN (f+1) u=0:=if_pos h
   rw [e]
   exact ⟨fun j hj => absurd hj (Nat.not_lt_zero j),by rw [Nat.pow_zero,Nat.div_one]; exact h⟩
  ·have e:rdN (f+1) u=rdN f (u / 128)+1:=if_neg h
   have hu2:u / 128 < 128 ^ (f+1):=Nat.div_lt_of_lt_mul (by rw [Nat.mul_comm]; rwa [Nat.pow_succ] at hu)
   obtain ⟨h1,h2⟩:=ih (u / 128) hu2
   rw [e]
   refine ⟨fun j hj => ?_,?_⟩
   ·cases j with
    | zero => rw [Nat.pow_zero,Nat.div_one]; omega
    | succ j =>
     have:=h1 j (by omega)
     rwa [Nat.pow_succ,Nat.mul_comm,← Nat.div_div_eq_div_mul]
   ·rwa [Nat.pow_succ,Nat.mul_comm,← Nat.div_div_eq_div_mul]
theorem numR_put (n : Int) (h1 : -9223372036854775808 ≤ n) (h2 : n < 9223372036854775808) (r : List UInt8) : numR 0 0 (putB n ++ r) = .ok (zig n,(putB n).length) := by
 have hz:=zig_lt n h1 h2
 obtain ⟨s1,s2⟩:=rdN_spec 10 (zig n) (Nat.lt_of_lt_of_le hz (by decide))
 have hk:=u_small (zig n) (rdN 10 (zig n)) hz s1
 have hmod:=Nat.div_add_mod (zig n) (128 ^ rdN 10 (zig n))
 have hpl:(putB n).length=rdN 10 (zig n)+1:=by unfold putB; rw [List.length_append,vk_len]; rfl
 rw [hpl]
 unfold putB
 generalize rdN 10 (zig n)=k at *
 generalize zig n=u at *
 rw [List.append_assoc,numR_vk u k _ hk]
 have hc:(UInt8.ofNat (u / 128 ^ k)).toNat=u / 128 ^ k:=ofNat_toNat (by omega)
 show (if (k=9 ∧ 1 < (UInt8.ofNat (u / 128 ^ k)).toNat) ∨ (0 < k ∧ (UInt8.ofNat (u / 128 ^ k)).toNat=0) then _ else if 128 ≤ (UInt8.ofNat (u / 128 ^ k)).toNat then _ else _)=_
 rw [hc]
 have hno:¬ ((k=9 ∧ 1 < u / 128 ^ k) ∨ (0 < k ∧ u / 128 ^ k=0)):=by
  rintro (⟨rfl,h⟩ | ⟨h,h0⟩)
  ·have e:(128:Nat) ^ 9=9223372036854775808:=by decide
   rw [e] at h; omega
  ·obtain ⟨j,rfl⟩:∃ j,k=j+1:=⟨k - 1,by omega⟩
   have:=s1 j (by omega)
   rw [Nat.pow_succ,← Nat.div_div_eq_div_mul] at h0
   omega
 rw [if_neg hno,if_neg (by omega),Nat.mod_eq_of_lt s2,Nat.mul_comm (u / 128 ^ k),Nat.add_comm (u % 128 ^ k),hmod]
theorem numR_bound : ∀ (l : List UInt8) (i u U m : Nat),numR i u l = .ok (U,m) → i ≤ 9 → u < 128 ^ i → U < 18446744073709551616 ∧ i < m ∧ m ≤ i + l.length ∧ m ≤ 10
 | [],i,u,U,m,h,_,_ => by cases h
 | c :: r,i,u,U,m,h,hi,hu => by
  unfold numR at h
  by_cases h1:(i=9 ∧ 1 < c.toNat) ∨ (0 < i ∧ c.toNat=0)
  ·rw [if_pos h1] at h; cases h
  rw [if_neg h1] at h
  have hp:c.toNat % 128*128 ^ i+u < 128 ^ (i+1):=by
   have:c.toNat % 128 ≤ 127:=by omega
   have h3:c.toNat % 128*128 ^ i ≤ 127*128 ^ i:=Nat.mul_le_mul_right _ this
   rw [Nat.pow_succ]; omega
  by_cases h2:128 ≤ c.toNat
  ·rw [if_pos h2] at h
   have h9:i ≠ 9:=fun e => h1 (.inl ⟨e,by omega⟩)
   obtain ⟨a,b,d,e⟩:=numR_bound r (i+1) _ U m h (by omega) (by omega)
   exact ⟨a,by omega,by rw [List.length_cons]; omega,e⟩
  ·rw [if_neg h2] at h
   injection h with h
   injection h with e1 e2
   subst e1 e2
   refine ⟨?_,by omega,by rw [List.length_cons]; omega,by omega⟩
   by_cases h9:i=9
   ·subst h9
    have hc:c.toNat ≤ 1:=by
     rcases Nat.lt_or_ge 1 c.toNat with h | h
     ·exact absurd (.inl ⟨rfl,h⟩) h1
     ·exact h
    have e:(128:Nat) ^ 9=9223372036854775808:=by decide
    rw [e] at hu ⊢
    have:c.toNat % 128*9223372036854775808 ≤ 1*9223372036854775808:=Nat.mul_le_mul_right _ (by omega)
    omega
   ·have:(128:Nat) ^ (i+1) ≤ 128 ^ 9:=Nat.pow_le_pow_right (by decide) (by omega)
    have e:(128:Nat) ^ 9=9223372036854775808:=by decide
    omega
def txtR (l : List UInt8) : Except Int (List UInt8 × Nat) := match numR 0 0 l with
 | .error z => .error z
 | .ok (U,m) => if unz U < 0 then .error 4 else if ((l.length - m:Nat):Int) < unz U then .error 5 else .ok ((l.drop m).take (unz U).toNat,m+(unz U).toNat)
structure RS where
  rest : List UInt8
  bad : Bool
def rdI (s : RS) : Int × RS := if s.bad then (0,s) else match numR 0 0 s.rest with
 | .ok (U,m) => (unz U,⟨s.rest.drop m,false⟩)
 | .error _ => (0,⟨s.rest,true⟩)
def rdT (s : RS) : ByteArray × RS := if s.bad then (⟨#[]⟩,s) else match txtR s.rest with
 | .ok (x,m) => (bsOf x,⟨s.rest.drop m,false⟩)
 | .error _ => (⟨#[]⟩,⟨s.rest,true⟩)
def rdAns (s : RS) : Ans × RS := (⟨(rdT s).1,(rdT (rdT s).2).1,(rdI (rdT (rdT s).2).2).1⟩,(rdI (rdT (rdT s).2).2).2)
def rdShw (s : RS) : Shw × RS := (⟨(rdT s).1,(rdT (rdT s).2).1⟩,(rdT (rdT s).2).2)
def timesR {α : Type} (item : RS → α × RS) : Nat → RS → List α × RS
 | 0,s => ([],s)
 | n+1,s => if s.bad then ([],s) else ((item s).1 :: (timesR item n (item s).2).1,(timesR item n (item s).2).2)
def rdTimes {α : Type} (item : RS → α × RS) (s : RS) : List α × RS := if (rdI s).1 < 0 ∨ 256 < (rdI s).1 then ([],⟨(rdI s).2.rest,true⟩) else timesR item (rdI s).1.toNat (rdI s).2
theorem put_drop (l r : List UInt8) : (l ++ r).drop l.length = r := List.drop_left
theorem rdI_put {n : Int} (h1 : -9223372036854775808 ≤ n) (h2 : n < 9223372036854775808) (r : List UInt8) : rdI ⟨putB n ++ r,false⟩ = (n,⟨r,false⟩) := by
 unfold rdI
 rw [if_neg (by simp)]
 dsimp only
 rw [numR_put n h1 h2 r]
 dsimp only
 rw [unz_zig,put_drop]
theorem txtR_put {s : ByteArray} (hs : s.size ≤ 4294967296) (r : List UInt8) : txtR (textL s ++ r) = .ok (blOf s,(textL s).length) := by
 have hl:(blOf s).length=s.size:=Array.length_toList
 unfold txtR textL
 rw [List.append_assoc,numR_put (s.size:Int) (by omega) (by omega)]
 dsimp only
 rw [unz_zig,put_drop,if_neg (by omega),if_neg (by simp only [List.length_append]; omega)]
 congr 2
 ·rw [Int.toNat_natCast,← hl,List.take_left]
 ·rw [Int.toNat_natCast,List.length_append,hl]
theorem rdT_put {s : ByteArray} (hs : s.size ≤ 4294967296) (r : List UInt8) : rdT ⟨textL s ++ r,false⟩ = (s,⟨r,false⟩) := by
 unfold rdT
 rw [if_neg (by simp)]
 dsimp only
 rw [txtR_put hs r]
 dsimp only
 rw [put_drop]; rfl
theorem rdAns_put {a : Ans} (h1 : a.field.size ≤ 4294967296) (h2 : a.text.size ≤ 4294967296) (h3 : -9223372036854775808 ≤ a.num ∧ a.num < 9223372036854775808) (r : List UInt8) : rdAns ⟨ansL a ++ r,false⟩ = (a,⟨r,false⟩) := by
 unfold rdAns ansL
 rw [List.append_assoc,List.append_assoc,rdT_put h1]
 dsimp only
 rw [rdT_put h2]
 dsimp only
 rw [rdI_put h3.1 h3.2]
theorem rdShw_put {a : Shw} (h1 : a.field.size ≤ 4294967296) (h2 : a.role.size ≤ 4294967296) (r : List UInt8) : rdShw ⟨shwL a ++ r,false⟩ = (a,⟨r,false⟩) := by
 unfold rdShw shwL
 rw [List.append_assoc,rdT_put h1]
 dsimp only
 rw [rdT_put h2]
theorem timesR_put {α : Type} {item : RS → α × RS} {w : α → List UInt8} : ∀ (L : List α) (r : List UInt8),(∀ a ∈ L,∀ r,item ⟨w a ++ r,false⟩ = (a,⟨r,false⟩)) → timesR item L.length ⟨L.flatMap w ++ r,false⟩ = (L,⟨r,false⟩)
 | [],r,_ => rfl
 | a :: L,r,h => by
  have h1:=h a (by simp) (L.flatMap w ++ r)
  have h2:=timesR_put L r fun b hb => h b (by simp [hb])
  show (if (false:Bool)=true then _ else _)=_
  rw [if_neg (by simp),List.flatMap_cons,List.append_assoc,h1]
  dsimp only
  rw [h2]
theorem rdTimes_put {α : Type} {item : RS → α × RS} {w : α → List UInt8} (L : List α) (r : List UInt8) (hL : L.length ≤ 256) (h : ∀ a ∈ L,∀ r,item ⟨w a ++ r,false⟩ = (a,⟨r,false⟩)) : rdTimes item ⟨putB (L.length : Int) ++ (L.flatMap w ++ r),false⟩ = (L,⟨r,false⟩) := by
 unfold rdTimes
 rw [rdI_put (by omega) (by omega)]
 dsimp only
 rw [if_neg (by omega),Int.toNat_natCast]
 exact timesR_put L r h
def rs1 (b : ByteArray) : ByteArray × RS := rdT ⟨blOf b,false⟩
def rs2 (b : ByteArray) : Int × RS := rdI (rs1 b).2
def rs3 (b : ByteArray) : Int × RS := rdI (rs2 b).2
def rs4 (b : ByteArray) : List Ans × RS := rdTimes rdAns (rs3 b).2
def rs5 (b : ByteArray) : ByteArray × RS := rdT (rs4 b).2
def rs6 (b : ByteArray) : List Shw × RS := rdTimes rdShw (rs5 b).2
def rsS (b : ByteArray) : Stm := ⟨(rs1 b).1,(rs2 b).1,(rs3 b).1,(rs4 b).1,(parseC (blOf (rs5 b).1)).1,(rs6 b).1⟩
def rsOk (b : ByteArray) : Prop := (rs6 b).2.bad = false ∧ (parseC (blOf (rs5 b).1)).2.2 = 0 ∧ bytZ (rsS b) = 0 ∧ bytS (rsS b) = b
theorem bytZ_parts {s : Stm} (h : bytZ s = 0) : (rootF s.cond).isSome = true ∧ max s.ans.length s.shw.length ≤ 256 ∧ (stmW s).length ≤ 16384 ∧ bytS s = bO (stmW s) := by
 unfold bytZ at h
 by_cases h1:(rootF s.cond).isSome=true
 ·rw [if_pos h1] at h
  by_cases h2:max s.ans.length s.shw.length ≤ 256
  ·rw [if_pos h2] at h
   by_cases h3:(stmW s).length ≤ 16384
   ·refine ⟨h1,h2,h3,?_⟩
    unfold bytS
    rw [if_pos h1,if_pos h2,if_pos h3]
   ·rw [if_neg h3] at h; cases h
  ·rw [if_neg h2] at h; cases h
 ·rw [if_neg h1] at h; cases h
theorem stmW_parts (s : Stm) : stmW s = textL s.resp ++ (putB s.dep ++ (putB s.day ++ (putB (s.ans.length : Int) ++ (s.ans.flatMap ansL ++ (textL (prnS s.cond) ++ (putB (s.shw.length : Int) ++ (s.shw.flatMap shwL ++ []))))))) := by
 unfold stmW stmC stmB stmA headL
 rw [List.take_length,List.take_length]
 simp only [List.append_assoc,List.append_nil]
theorem read_back (s : Stm) (hok : StmOk s) (hz : bytZ s = 0) (hk : ∀ t ∈ s.cond,KitT t) : rsS (bytS s) = s ∧ rsOk (bytS s) := by
 obtain ⟨h1,h2,h3,h4⟩:=bytZ_parts hz
 have hb:blOf (bytS s)=stmW s:=by rw [h4]; rfl
 have hans:∀ a ∈ s.ans,∀ r,rdAns ⟨ansL a ++ r,false⟩=(a,⟨r,false⟩):=fun a ha r => by
  obtain ⟨k,hkl,rfl⟩:=List.mem_iff_getElem.1 ha
  have e:ansAt s.ans k=s.ans[k]:=by unfold ansAt; rw [List.getD_eq_getElem?_getD,List.getElem?_eq_getElem hkl]; rfl
  have:=hok.ans k hkl
  rw [e] at this
  exact rdAns_put (by omega) (by omega) this.2.2 r
 have hshw:∀ a ∈ s.shw,∀ r,rdShw ⟨shwL a ++ r,false⟩=(a,⟨r,false⟩):=fun a ha r => by
  obtain ⟨k,hkl,rfl⟩:=List.mem_iff_getElem.1 ha
  have e:shwAt s.shw k=s.shw[k]:=by unfold shwAt; rw [List.getD_eq_getElem?_getD,List.getElem?_eq_getElem hkl]; rfl
  have:=hok.shw k hkl
  rw [e] at this
  exact rdShw_put (by omega) (by omega) r
 have hp:=prnS_size s.cond
 have e1:rs1 (bytS s)=(s.resp,⟨putB s.dep ++ (putB s.day ++ (putB (s.ans.length:Int) ++ (s.ans.flatMap ansL ++ (textL (prnS s.cond) ++ (putB (s.shw.length:Int) ++ (s.shw.flatMap shwL ++ [])))))),false⟩):=by
  unfold rs1; rw [hb,stmW_parts]; exact rdT_put (by have:=hok.resp; omega) _
 have e2:rs2 (bytS s)=(s.dep,⟨putB s.day ++ (putB (s.ans.length:Int) ++ (s.ans.flatMap ansL ++ (textL (prnS s.cond) ++ (putB (s.shw.length:Int) ++ (s.shw.flatMap shwL ++ []))))),false⟩):=by
  unfold rs2; rw [e1]; exact rdI_put hok.dep.1 hok.dep.2 _
 have e3:rs3 (bytS s)=(s.day,⟨putB (s.ans.length:Int) ++ (s.ans.flatMap ansL ++ (textL (prnS s.cond) ++ (putB (s.shw.length:Int) ++ (s.shw.flatMap shwL ++ [])))),false⟩):=by
  unfold rs3; rw [e2]; exact rdI_put hok.day.1 hok.day.2 _
 have e4:rs4 (bytS s)=(s.ans,⟨textL (prnS s.cond) ++ (putB (s.shw.length:Int) ++ (s.shw.flatMap shwL ++ [])),false⟩):=by
  unfold rs4; rw [e3]; exact rdTimes_put s.ans _ (by omega) hans
 have e5:rs5 (bytS s)=(prnS s.cond,⟨putB (s.shw.length:Int) ++ (s.shw.flatMap shwL ++ []),false⟩):=by
  unfold rs5; rw [e4]; exact rdT_put (by omega) _
 have e6:rs6 (bytS s)=(s.shw,⟨[],false⟩):=by
  unfold rs6; rw [e5]; exact rdTimes_put s.shw [] (by omega) hshw
 have ep:parseC (blOf (prnS s.cond))=(s.cond,0,0):=by
  obtain ⟨T,hT⟩:=Option.isSome_iff_exists.1 h1
  have:=back_same hT hk
  unfold prnS
  rw [hT]
  exact this
 have eS:rsS (bytS s)=s:=by
  unfold rsS
  rw [e1,e2,e3,e4,e5,e6,ep]
 refine ⟨eS,?_⟩
 unfold rsOk
 rw [eS,e6,e5,ep]
 exact ⟨rfl,rfl,hz,rfl⟩
end Go.Proofs.YtfinaekeoeeogaaGreatDoor
