/- Contracts: a condition is read. And more. -/
import Derived.Test.YtgdngfdeeadlnaaGreatDoorZ19
import Derived.Tactics2
import Derived.Defers
import Derived.Recover
import Derived.Laws.Pointers
set_option linter.unusedVariables false
set_option linter.unusedSimpArgs false
namespace Go.Proofs.YtgdngfdeeadlnaaGreatDoor
open Go.RowKit Num
set_option maxRecDepth 100000 in
set_option maxHeartbeats 2000000 in
theorem f_cond_1b (rb f : Nat) (s : ByteArray) (r : List UInt8) (w : World) (hr : Rd w rb s r) (h6 : 7 < rb) (hs : s.size ≤ 100000) (hl : ParOk w) (wd r1 : List UInt8) (ht : takeB kdP r = some (wd,r1)) (hk : kindB wd = 1) (q : List UInt8) (hx : PF f .args r1 = .bad q)
  (ha:∀ W,Rd W rb s r1 → ParOk W → Calls Tryz.prog 162 #[.pointer (some ⟨rb,0,none⟩)] W (ArgsPost W rb s f (PF f .args r1))):Calls Tryz.prog 129 #[.pointer (some ⟨rb,0,none⟩)] w (CondPost w rb s (f+1) (.bad q)):=by
 have HK:=Lib.hid hk
 have HX:=Lib.hid hx
 have HA:=Lib.hid ha
 clear hk hx ha
 have hrl:=hr.lt
 have hb1:Below w.heap.size w (w.alloc (.cells zeroT 169)):=(Below.refl _ _).alloc (Nat.le_refl _) _
 have H1:=Lib.hid (t_kind rb s r _ (hr.below hb1) hs (hl.later hb1))
 have hne:rb ≠ w.heap.size:=by omega
 have HG1:=Lib.hid (only_of_below hb1 (some rb))
 have HL1:=Lib.hid (hl.later hb1)
 have HBK1:=Lib.hid (blk_start w)
 have HT:=Lib.hid ht
 clear hr hl hb1 ht
 go_enter Tryz.func129,Tryz.ntmps129
 go_wp2_with fail
 refine H1.out.mono ?_
 rw [HT.out]
 rintro e w2 ⟨hg2,rfl,hrd2⟩
 have hne':some w.heap.size ≠ some rb:=fun e => by injection e with e; omega
 have hblk2:=Blk.grown' HBK1.out hg2 hne'
 have hl2:ParOk w2:=HL1.out.grown hg2 (fun b hb => by injection hb with hb; omega)
 have HRD2:=Lib.hid hrd2
 have HG2:=Lib.hid (HG1.out.trans hg2)
 have HBK2:=Lib.hid hblk2
 have HL2:=Lib.hid hl2
 have hs2:=hg2.size
 have hsz2:w.heap.size < w2.heap.size:=hblk2.lt
 clear hg2 hrd2 hblk2 hl2
 go_wp2_with fail
 refine (f_kindOf (bsOf wd) _).mono ?_
 rw [blOf_bsOf,HK.out]
 rintro e w3 ⟨rfl,hb3⟩
 have hblk3:=HBK2.out.below' hb3 hsz2
 have k0:=(hblk3.cell 0).trans (show _=some (Value.int .i64 0) from rfl)
 have f0:=hblk3.frozen 0
 have HRD3:=Lib.hid (HRD2.out.below hb3)
 have HG3:=Lib.hid (HG2.out.trans (only_of_below hb3 (some rb)))
 have HL3:=Lib.hid (HL2.out.later hb3)
 have HBK4:=Lib.hid (show Blk (w3.setCell ⟨w.heap.size,0,none⟩ (.int .i64 1)) w.heap.size 169 (tz 1 0 0 ⟨#[]⟩ ⟨#[]⟩ (.slice none 0 0)) from hblk3.set_ 0 _)
 have k4:=(HBK4.out.cell 0).trans (show _=some (Value.int .i64 1) from rfl)
 have HG4:=Lib.hid (grown_new HG3.out w.heap.size 0 (Nat.le_refl _) (.int .i64 1))
 have HRD4:=Lib.hid (HRD3.out.keep (Below.heap_setCell w3 ⟨w.heap.size,0,none⟩ (.int .i64 1) rb hne))
 have HL4:=Lib.hid (HL3.out.grown (grown_set w3 ⟨w.heap.size,0,none⟩ (.int .i64 1)) (fun b hb => by injection hb with hb; have:w.heap.size=b:=hb; omega))
 have hs3:=hb3.size
 clear hb3 hblk3
 go_wp2_with fail
 refine (HA.out _ HRD4.out HL4.out).mono ?_
 rw [HX.out]
 rintro e w5 ⟨hg5,rfl⟩
 go_wp2_with fail
 exact ⟨rfl,HG4.out.trans hg5,rfl⟩
set_option maxRecDepth 100000 in
set_option maxHeartbeats 2000000 in
theorem f_cond_1 (rb f : Nat) (s : ByteArray) (r : List UInt8) (w : World) (hr : Rd w rb s r) (h6 : 7 < rb) (hs : s.size ≤ 100000) (hl : ParOk w) (wd r1 : List UInt8) (ht : takeB kdP r = some (wd,r1)) (hk : kindB wd = 1) (xs : List Tree) (q : List UInt8) (hx : PF f .args r1 = .ok xs q)
  (ha:∀ W,Rd W rb s r1 → ParOk W → Calls Tryz.prog 162 #[.pointer (some ⟨rb,0,none⟩)] W (ArgsPost W rb s f (PF f .args r1))):Calls Tryz.prog 129 #[.pointer (some ⟨rb,0,none⟩)] w (CondPost w rb s (f+1) (.ok [.node (mkT 1 0 0 E0 E0) xs] q)):=by
 have HK:=Lib.hid hk
 have HX:=Lib.hid hx
 have HA:=Lib.hid ha
 clear hk hx ha
 have hrl:=hr.lt
 have hb1:Below w.heap.size w (w.alloc (.cells zeroT 169)):=(Below.refl _ _).alloc (Nat.le_refl _) _
 have H1:=Lib.hid (t_kind rb s r _ (hr.below hb1) hs (hl.later hb1))
 have hne:rb ≠ w.heap.size:=by omega
 have HG1:=Lib.hid (only_of_below hb1 (some rb))
 have HL1:=Lib.hid (hl.later hb1)
 have HBK1:=Lib.hid (blk_start w)
 have HT:=Lib.hid ht
 clear hr hl hb1 ht
 go_enter Tryz.func129,Tryz.ntmps129
 go_wp2_with fail
 refine H1.out.mono ?_
 rw [HT.out]
 rintro e w2 ⟨hg2,rfl,hrd2⟩
 have hne':some w.heap.size ≠ some rb:=fun e => by injection e with e; omega
 have hblk2:=Blk.grown' HBK1.out hg2 hne'
 have hl2:ParOk w2:=HL1.out.grown hg2 (fun b hb => by injection hb with hb; omega)
 have HRD2:=Lib.hid hrd2
 have HG2:=Lib.hid (HG1.out.trans hg2)
 have HBK2:=Lib.hid hblk2
 have HL2:=Lib.hid hl2
 have hs2:=hg2.size
 have hsz2:w.heap.size < w2.heap.size:=hblk2.lt
 clear hg2 hrd2 hblk2 hl2
 go_wp2_with fail
 refine (f_kindOf (bsOf wd) _).mono ?_
 rw [blOf_bsOf,HK.out]
 rintro e w3 ⟨rfl,hb3⟩
 have hblk3:=HBK2.out.below' hb3 hsz2
 have k0:=(hblk3.cell 0).trans (show _=some (Value.int .i64 0) from rfl)
 have f0:=hblk3.frozen 0
 have HRD3:=Lib.hid (HRD2.out.below hb3)
 have HG3:=Lib.hid (HG2.out.trans (only_of_below hb3 (some rb)))
 have HL3:=Lib.hid (HL2.out.later hb3)
 have HBK4:=Lib.hid (show Blk (w3.setCell ⟨w.heap.size,0,none⟩ (.int .i64 1)) w.heap.size 169 (tz 1 0 0 ⟨#[]⟩ ⟨#[]⟩ (.slice none 0 0)) from hblk3.set_ 0 _)
 have k4:=(HBK4.out.cell 0).trans (show _=some (Value.int .i64 1) from rfl)
 have HG4:=Lib.hid (grown_new HG3.out w.heap.size 0 (Nat.le_refl _) (.int .i64 1))
 have HRD4:=Lib.hid (HRD3.out.keep (Below.heap_setCell w3 ⟨w.heap.size,0,none⟩ (.int .i64 1) rb hne))
 have HL4:=Lib.hid (HL3.out.grown (grown_set w3 ⟨w.heap.size,0,none⟩ (.int .i64 1)) (fun b hb => by injection hb with hb; have:w.heap.size=b:=hb; omega))
 have hs3:=hb3.size
 clear hb3 hblk3
 go_wp2_with fail
 refine (HA.out _ HRD4.out HL4.out).mono ?_
 rw [HX.out]
 rintro e w5 ⟨hg5,v,ps,rfl,hrd5,hown5,hk5⟩
 obtain ⟨A5,c5,rfl⟩:=own_slice hown5
 have hsz4:(w3.setCell ⟨w.heap.size,0,none⟩ (.int .i64 1)).heap.size=w3.heap.size:=by simp [World.setCell]
 have hblk5:=Blk.grown' HBK4.out hg5 hne'
 have d5:=(hblk5.cell 6).trans (show _=some (Value.slice none 0 0) from rfl)
 have f5:=hblk5.frozen 6
 have hb3lt:w.heap.size < w3.heap.size:=Nat.lt_of_lt_of_le hsz2 (by have:=HBK4.out.lt; have:=HG3.out.size; have:=hs3; omega)
 have HBK6:=Lib.hid (show Blk (w5.setCell ⟨w.heap.size,6,none⟩ (.slice A5 xs.length c5)) w.heap.size 169 (tz 1 0 0 ⟨#[]⟩ ⟨#[]⟩ (.slice A5 xs.length c5)) from hblk5.set_ 6 _)
 have hg05:=HG4.out.trans hg5
 have HG6:=Lib.hid (grown_new hg05 w.heap.size 6 (Nat.le_refl _) (.slice A5 xs.length c5))
 have HRD6:=Lib.hid (hrd5.keep (Below.heap_setCell w5 ⟨w.heap.size,6,none⟩ (.slice A5 xs.length c5) rb hne))
 have hown6:(w5.setCell ⟨w.heap.size,6,none⟩ (.slice A5 xs.length c5)).ownsRow w.heap.size 138 1 (.slice A5 xs.length c5) xs.length ps:=by
  refine own_mono ((hown5.kept (grown_set w5 ⟨w.heap.size,6,none⟩ (.slice A5 xs.length c5)) ?_)) (by omega)
  right; intro e; have:=(hown5.lt w.heap.size e).1; omega
 have hk6:KidZ (w5.setCell ⟨w.heap.size,6,none⟩ (.slice A5 xs.length c5)) (NewS w (w5.setCell ⟨w.heap.size,6,none⟩ (.slice A5 xs.length c5))) f ps xs:=by
  refine hk5.keep (fun b hS => Below.heap_setCell w5 ⟨w.heap.size,6,none⟩ _ b ?_) (fun b hS => ⟨?_,?_⟩)
  ·have:=hS.1; show b ≠ w.heap.size; omega
  ·have:=hS.1; omega
  ·have:=hS.2; simpa [World.setCell] using this
 have HO6:=Lib.hid hown6
 have HK6:=Lib.hid hk6
 clear hg5 hrd5 hown5 hk5 hblk5 hg05 hown6 hk6
 go_wp2_with fail
 go_ret
 exact ⟨HG6.out,_,rfl,HRD6.out,tz_tree HBK6.out (Nat.le_refl _) HO6.out rfl HK6.out⟩
set_option maxRecDepth 100000 in
set_option maxHeartbeats 2000000 in
theorem f_cond_2b (rb f : Nat) (s : ByteArray) (r : List UInt8) (w : World) (hr : Rd w rb s r) (h6 : 7 < rb) (hs : s.size ≤ 100000) (hl : ParOk w) (wd r1 : List UInt8) (ht : takeB kdP r = some (wd,r1)) (hk : kindB wd = 2) (q : List UInt8) (hx : PF f .args r1 = .bad q)
  (ha:∀ W,Rd W rb s r1 → ParOk W → Calls Tryz.prog 162 #[.pointer (some ⟨rb,0,none⟩)] W (ArgsPost W rb s f (PF f .args r1))):Calls Tryz.prog 129 #[.pointer (some ⟨rb,0,none⟩)] w (CondPost w rb s (f+1) (.bad q)):=by
 have HK:=Lib.hid hk
 have HX:=Lib.hid hx
 have HA:=Lib.hid ha
 clear hk hx ha
 have hrl:=hr.lt
 have hb1:Below w.heap.size w (w.alloc (.cells zeroT 169)):=(Below.refl _ _).alloc (Nat.le_refl _) _
 have H1:=Lib.hid (t_kind rb s r _ (hr.below hb1) hs (hl.later hb1))
 have hne:rb ≠ w.heap.size:=by omega
 have HG1:=Lib.hid (only_of_below hb1 (some rb))
 have HL1:=Lib.hid (hl.later hb1)
 have HBK1:=Lib.hid (blk_start w)
 have HT:=Lib.hid ht
 clear hr hl hb1 ht
 go_enter Tryz.func129,Tryz.ntmps129
 go_wp2_with fail
 refine H1.out.mono ?_
 rw [HT.out]
 rintro e w2 ⟨hg2,rfl,hrd2⟩
 have hne':some w.heap.size ≠ some rb:=fun e => by injection e with e; omega
 have hblk2:=Blk.grown' HBK1.out hg2 hne'
 have hl2:ParOk w2:=HL1.out.grown hg2 (fun b hb => by injection hb with hb; omega)
 have HRD2:=Lib.hid hrd2
 have HG2:=Lib.hid (HG1.out.trans hg2)
 have HBK2:=Lib.hid hblk2
 have HL2:=Lib.hid hl2
 have hs2:=hg2.size
 have hsz2:w.heap.size < w2.heap.size:=hblk2.lt
 clear hg2 hrd2 hblk2 hl2
 go_wp2_with fail
 refine (f_kindOf (bsOf wd) _).mono ?_
 rw [blOf_bsOf,HK.out]
 rintro e w3 ⟨rfl,hb3⟩
 have hblk3:=HBK2.out.below' hb3 hsz2
 have k0:=(hblk3.cell 0).trans (show _=some (Value.int .i64 0) from rfl)
 have f0:=hblk3.frozen 0
 have HRD3:=Lib.hid (HRD2.out.below hb3)
 have HG3:=Lib.hid (HG2.out.trans (only_of_below hb3 (some rb)))
 have HL3:=Lib.hid (HL2.out.later hb3)
 have HBK4:=Lib.hid (show Blk (w3.setCell ⟨w.heap.size,0,none⟩ (.int .i64 2)) w.heap.size 169 (tz 2 0 0 ⟨#[]⟩ ⟨#[]⟩ (.slice none 0 0)) from hblk3.set_ 0 _)
 have k4:=(HBK4.out.cell 0).trans (show _=some (Value.int .i64 2) from rfl)
 have HG4:=Lib.hid (grown_new HG3.out w.heap.size 0 (Nat.le_refl _) (.int .i64 2))
 have HRD4:=Lib.hid (HRD3.out.keep (Below.heap_setCell w3 ⟨w.heap.size,0,none⟩ (.int .i64 2) rb hne))
 have HL4:=Lib.hid (HL3.out.grown (grown_set w3 ⟨w.heap.size,0,none⟩ (.int .i64 2)) (fun b hb => by injection hb with hb; have:w.heap.size=b:=hb; omega))
 have hs3:=hb3.size
 clear hb3 hblk3
 go_wp2_with fail
 refine (HA.out _ HRD4.out HL4.out).mono ?_
 rw [HX.out]
 rintro e w5 ⟨hg5,rfl⟩
 go_wp2_with fail
 exact ⟨rfl,HG4.out.trans hg5,rfl⟩
set_option maxRecDepth 100000 in
set_option maxHeartbeats 2000000 in
theorem f_cond_2 (rb f : Nat) (s : ByteArray) (r : List UInt8) (w : World) (hr : Rd w rb s r) (h6 : 7 < rb) (hs : s.size ≤ 100000) (hl : ParOk w) (wd r1 : List UInt8) (ht : takeB kdP r = some (wd,r1)) (hk : kindB wd = 2) (xs : List Tree) (q : List UInt8) (hx : PF f .args r1 = .ok xs q)
  (ha:∀ W,Rd W rb s r1 → ParOk W → Calls Tryz.prog 162 #[.pointer (some ⟨rb,0,none⟩)] W (ArgsPost W rb s f (PF f .args r1))):Calls Tryz.prog 129 #[.pointer (some ⟨rb,0,none⟩)] w (CondPost w rb s (f+1) (.ok [.node (mkT 2 0 0 E0 E0) xs] q)):=by
 have HK:=Lib.hid hk
 have HX:=Lib.hid hx
 have HA:=Lib.hid ha
 clear hk hx ha
 have hrl:=hr.lt
 have hb1:Below w.heap.size w (w.alloc (.cells zeroT 169)):=(Below.refl _ _).alloc (Nat.le_refl _) _
 have H1:=Lib.hid (t_kind rb s r _ (hr.below hb1) hs (hl.later hb1))
 have hne:rb ≠ w.heap.size:=by omega
 have HG1:=Lib.hid (only_of_below hb1 (some rb))
 have HL1:=Lib.hid (hl.later hb1)
 have HBK1:=Lib.hid (blk_start w)
 have HT:=Lib.hid ht
 clear hr hl hb1 ht
 go_enter Tryz.func129,Tryz.ntmps129
 go_wp2_with fail
 refine H1.out.mono ?_
 rw [HT.out]
 rintro e w2 ⟨hg2,rfl,hrd2⟩
 have hne':some w.heap.size ≠ some rb:=fun e => by injection e with e; omega
 have hblk2:=Blk.grown' HBK1.out hg2 hne'
 have hl2:ParOk w2:=HL1.out.grown hg2 (fun b hb => by injection hb with hb; omega)
 have HRD2:=Lib.hid hrd2
 have HG2:=Lib.hid (HG1.out.trans hg2)
 have HBK2:=Lib.hid hblk2
 have HL2:=Lib.hid hl2
 have hs2:=hg2.size
 have hsz2:w.heap.size < w2.heap.size:=hblk2.lt
 clear hg2 hrd2 hblk2 hl2
 go_wp2_with fail
 refine (f_kindOf (bsOf wd) _).mono ?_
 rw [blOf_bsOf,HK.out]
 rintro e w3 ⟨rfl,hb3⟩
 have hblk3:=HBK2.out.below' hb3 hsz2
 have k0:=(hblk3.cell 0).trans (show _=some (Value.int .i64 0) from rfl)
 have f0:=hblk3.frozen 0
 have HRD3:=Lib.hid (HRD2.out.below hb3)
 have HG3:=Lib.hid (HG2.out.trans (only_of_below hb3 (some rb)))
 have HL3:=Lib.hid (HL2.out.later hb3)
 have HBK4:=Lib.hid (show Blk (w3.setCell ⟨w.heap.size,0,none⟩ (.int .i64 2)) w.heap.size 169 (tz 2 0 0 ⟨#[]⟩ ⟨#[]⟩ (.slice none 0 0)) from hblk3.set_ 0 _)
 have k4:=(HBK4.out.cell 0).trans (show _=some (Value.int .i64 2) from rfl)
 have HG4:=Lib.hid (grown_new HG3.out w.heap.size 0 (Nat.le_refl _) (.int .i64 2))
 have HRD4:=Lib.hid (HRD3.out.keep (Below.heap_setCell w3 ⟨w.heap.size,0,none⟩ (.int .i64 2) rb hne))
 have HL4:=Lib.hid (HL3.out.grown (grown_set w3 ⟨w.heap.size,0,none⟩ (.int .i64 2)) (fun b hb => by injection hb with hb; have:w.heap.size=b:=hb; omega))
 have hs3:=hb3.size
 clear hb3 hblk3
 go_wp2_with fail
 refine (HA.out _ HRD4.out HL4.out).mono ?_
 rw [HX.out]
 rintro e w5 ⟨hg5,v,ps,rfl,hrd5,hown5,hk5⟩
 obtain ⟨A5,c5,rfl⟩:=own_slice hown5
 have hsz4:(w3.setCell ⟨w.heap.size,0,none⟩ (.int .i64 2)).heap.size=w3.heap.size:=by simp [World.setCell]
 have hblk5:=Blk.grown' HBK4.out hg5 hne'
 have d5:=(hblk5.cell 6).trans (show _=some (Value.slice none 0 0) from rfl)
 have f5:=hblk5.frozen 6
 have hb3lt:w.heap.size < w3.heap.size:=Nat.lt_of_lt_of_le hsz2 (by have:=HBK4.out.lt; have:=HG3.out.size; have:=hs3; omega)
 have HBK6:=Lib.hid (show Blk (w5.setCell ⟨w.heap.size,6,none⟩ (.slice A5 xs.length c5)) w.heap.size 169 (tz 2 0 0 ⟨#[]⟩ ⟨#[]⟩ (.slice A5 xs.length c5)) from hblk5.set_ 6 _)
 have hg05:=HG4.out.trans hg5
 have HG6:=Lib.hid (grown_new hg05 w.heap.size 6 (Nat.le_refl _) (.slice A5 xs.length c5))
 have HRD6:=Lib.hid (hrd5.keep (Below.heap_setCell w5 ⟨w.heap.size,6,none⟩ (.slice A5 xs.length c5) rb hne))
 have hown6:(w5.setCell ⟨w.heap.size,6,none⟩ (.slice A5 xs.length c5)).ownsRow w.heap.size 138 1 (.slice A5 xs.length c5) xs.length ps:=by
  refine own_mono ((hown5.kept (grown_set w5 ⟨w.heap.size,6,none⟩ (.slice A5 xs.length c5)) ?_)) (by omega)
  right; intro e; have:=(hown5.lt w.heap.size e).1; omega
 have hk6:KidZ (w5.setCell ⟨w.heap.size,6,none⟩ (.slice A5 xs.length c5)) (NewS w (w5.setCell ⟨w.heap.size,6,none⟩ (.slice A5 xs.length c5))) f ps xs:=by
  refine hk5.keep (fun b hS => Below.heap_setCell w5 ⟨w.heap.size,6,none⟩ _ b ?_) (fun b hS => ⟨?_,?_⟩)
  ·have:=hS.1; show b ≠ w.heap.size; omega
  ·have:=hS.1; omega
  ·have:=hS.2; simpa [World.setCell] using this
 have HO6:=Lib.hid hown6
 have HK6:=Lib.hid hk6
 clear hg5 hrd5 hown5 hk5 hblk5 hg05 hown6 hk6
 go_wp2_with fail
 go_ret
 exact ⟨HG6.out,_,rfl,HRD6.out,tz_tree HBK6.out (Nat.le_refl _) HO6.out rfl HK6.out⟩
theorem cond_step (f : Nat) (hargs : ∀ (rb : Nat) (s : ByteArray) (r : List UInt8) (w : World),Rd w rb s r → r.length < f → 7 < rb → s.size ≤ 100000 → ParOk w →
   Calls Tryz.prog 162 #[.pointer (some ⟨rb,0,none⟩)] w (ArgsPost w rb s f (PF f .args r))):CondC (f+1):=by
 intro rb s r w hr hlen h6 hs hl
 rcases ht:takeB kdP r with _ | ⟨wd,r1⟩
 ·have e:PF (f+1) .cond r=.bad r:=by simp only [PF]; rw [ht]
  rw [e]; exact f_cond_bad rb f s r w hr h6 hs hl ht
 ·have hl1:=take_len ht
  have hp:=(take_sp (a:=[]) ht).2.2.1
  have hk0:0 < kindB wd:=of_decide_eq_true hp
  have hk8:=kindB_le wd
  have ha:∀ W,Rd W rb s r1 → ParOk W → Calls Tryz.prog 162 #[.pointer (some ⟨rb,0,none⟩)] W (ArgsPost W rb s f (PF f .args r1)):=fun W h1 h2 => hargs rb s r1 W h1 (by omega) h6 hs h2
  have hk:kindB wd=1 ∨ kindB wd=2 ∨ kindB wd=3 ∨ kindB wd=4 ∨ kindB wd=5 ∨ kindB wd=6 ∨ kindB wd=7 ∨ kindB wd=8:=by omega
  rcases hk with hk | hk | hk | hk | hk | hk | hk | hk
  ·rcases hx:PF f .args r1 with ⟨xs,q⟩ | q
   ·have e:PF (f+1) .cond r=.ok [.node (mkT 1 0 0 E0 E0) xs] q:=by simp only [PF]; rw [ht]; simp only [hk]; rw [hx]; rfl
    rw [e]; exact f_cond_1 rb f s r w hr h6 hs hl wd r1 ht hk xs q hx ha
   ·have e:PF (f+1) .cond r=.bad q:=by simp only [PF]; rw [ht]; simp only [hk]; rw [hx]; rfl
    rw [e]; exact f_cond_1b rb f s r w hr h6 hs hl wd r1 ht hk q hx ha
  ·rcases hx:PF f .args r1 with ⟨xs,q⟩ | q
   ·have e:PF (f+1) .cond r=.ok [.node (mkT 2 0 0 E0 E0) xs] q:=by simp only [PF]; rw [ht]; simp only [hk]; rw [hx]; rfl
    rw [e]; exact f_cond_2 rb f s r w hr h6 hs hl wd r1 ht hk xs q hx ha
   ·have e:PF (f+1) .cond r=.bad q:=by simp only [PF]; rw [ht]; simp only [hk]; rw [hx]; rfl
    rw [e]; exact f_cond_2b rb f s r w hr h6 hs hl wd r1 ht hk q hx ha
  ·rcases hx:numF r1 with _ | ⟨n,q⟩
   ·have e:PF (f+1) .cond r=.bad r1:=by simp only [PF]; rw [ht]; simp only [hk]; rw [hx]; rfl
    rw [e]; exact f_cond_3b rb f s r w hr h6 hs hl wd r1 ht hk hx
   ·have e:PF (f+1) .cond r=.ok [.node (mkT 3 n 0 E0 E0) []] q:=by simp only [PF]; rw [ht]; simp only [hk]; rw [hx]; rfl
    rw [e]; exact f_cond_3 rb f s r w hr h6 hs hl wd r1 ht hk n q hx
  ·rcases hx:numF r1 with _ | ⟨n,q⟩
   ·have e:PF (f+1) .cond r=.bad r1:=by simp only [PF]; rw [ht]; simp only [hk]; rw [hx]; rfl
    rw [e]; exact f_cond_4b rb f s r w hr h6 hs hl wd r1 ht hk hx
   ·have e:PF (f+1) .cond r=.ok [.node (mkT 4 n 0 E0 E0) []] q:=by simp only [PF]; rw [ht]; simp only [hk]; rw [hx]; rfl
    rw [e]; exact f_cond_4 rb f s r w hr h6 hs hl wd r1 ht hk n q hx
  ·rcases hx0:numF r1 with _ | ⟨y,r2⟩
   ·have e:PF (f+1) .cond r=.bad r1:=by simp only [PF]; rw [ht]; simp only [hk]; rw [hx0]; rfl
    rw [e]; exact f_cond_5a rb f s r w hr h6 hs hl wd r1 ht hk hx0
   ·rcases hx1:takeB (· == ofB) r2 with _ | ⟨o,r3⟩
    ·have e:PF (f+1) .cond r=.bad r2:=by simp only [PF]; rw [ht]; simp only [hk]; rw [hx0]; simp only; rw [hx1]; rfl
     rw [e]; exact f_cond_5b rb f s r w hr h6 hs hl wd r1 ht hk y r2 hx0 hx1
    ·rcases hx2:numF r3 with _ | ⟨n,r4⟩
     ·have e:PF (f+1) .cond r=.bad r3:=by simp only [PF]; rw [ht]; simp only [hk]; rw [hx0]; simp only; rw [hx1]; simp only; rw [hx2]; rfl
      rw [e]; exact f_cond_5c rb f s r w hr h6 hs hl wd r1 ht hk y r2 hx0 o r3 hx1 hx2
     ·have e:PF (f+1) .cond r=.ok [.node (mkT 5 n y E0 E0) []] r4:=by simp only [PF]; rw [ht]; simp only [hk]; rw [hx0]; simp only; rw [hx1]; simp only; rw [hx2]; rfl
      rw [e]; exact f_cond_5 rb f s r w hr h6 hs hl wd r1 ht hk y r2 hx0 o r3 hx1 n r4 hx2
  ·have e:PF (f+1) .cond r=.ok [.node (mkT 6 0 0 E0 E0) []] r1:=by simp only [PF]; rw [ht]; simp only [hk]; rfl
   rw [e]; exact f_cond_6 rb f s r w hr h6 hs hl wd r1 ht hk
  ·rcases hx0:takeB nameB r1 with _ | ⟨fd,r2⟩
   ·have e:PF (f+1) .cond r=.bad r1:=by simp only [PF]; rw [ht]; simp only [hk]; rw [hx0]; rfl
    rw [e]; exact f_cond_7a rb f s r w hr h6 hs hl wd r1 ht hk hx0
   ·rcases hx1:takeB (fun x => x.headD 0 == 34) r2 with _ | ⟨tx,r3⟩
    ·have e:PF (f+1) .cond r=.bad r2:=by simp only [PF]; rw [ht]; simp only [hk]; rw [hx0]; simp only; rw [hx1]; rfl
     rw [e]; exact f_cond_7b rb f s r w hr h6 hs hl wd r1 ht hk fd r2 hx0 hx1
    ·rcases hx2:takeB (· == ofB) r3 with _ | ⟨o,r4⟩
     ·have e:PF (f+1) .cond r=.bad r3:=by simp only [PF]; rw [ht]; simp only [hk]; rw [hx0]; simp only; rw [hx1]; simp only; rw [hx2]; rfl
      rw [e]; exact f_cond_7c rb f s r w hr h6 hs hl wd r1 ht hk fd r2 hx0 tx r3 hx1 hx2
     ·rcases hx3:numF r4 with _ | ⟨n,r5⟩
      ·have e:PF (f+1) .cond r=.bad r4:=by simp only [PF]; rw [ht]; simp only [hk]; rw [hx0]; simp only; rw [hx1]; simp only; rw [hx2]; simp only; rw [hx3]; rfl
       rw [e]; exact f_cond_7d rb f s r w hr h6 hs hl wd r1 ht hk fd r2 hx0 tx r3 hx1 o r4 hx2 hx3
      ·have e:PF (f+1) .cond r=.ok [.node (mkT 7 n 0 (bsOf fd) (bsOf ((tx.drop 1).take (tx.length - 2)))) []] r5:=by simp only [PF]; rw [ht]; simp only [hk]; rw [hx0]; simp only; rw [hx1]; simp only; rw [hx2]; simp only; rw [hx3]; rfl
       rw [e]; exact f_cond_7 rb f s r w hr h6 hs hl wd r1 ht hk fd r2 hx0 tx r3 hx1 o r4 hx2 n r5 hx3
  ·have e:PF (f+1) .cond r=.ok [.node (mkT 8 0 0 E0 E0) []] r1:=by simp only [PF]; rw [ht]; simp only [hk]; rfl
   rw [e]; exact f_cond_8 rb f s r w hr h6 hs hl wd r1 ht hk
theorem args_step (f : Nat) (hcs : ∀ f',f' ≤ f → CondC f') (rb : Nat) (s : ByteArray) (r : List UInt8) (w : World) (hr : Rd w rb s r) (hlen : r.length < f + 1) (h6 : 7 < rb) (hs : s.size ≤ 100000) (hl : ParOk w) :
  Calls Tryz.prog 162 #[.pointer (some ⟨rb,0,none⟩)] w (ArgsPost w rb s (f+1) (PF (f+1) .args r)):=by
 have hc:=hcs f (Nat.le_refl f)
 rcases h1:takeB (· == [40]) r with _ | ⟨o,r1⟩
 ·rw [args_1 h1]; exact f_args_1 rb f s r w hr hlen h6 hs hl hc h1
 ·rcases h2:PF f .cond r1 with ⟨xs,r2⟩ | q
  ·obtain ⟨_,hone⟩:=PF_len _ _ _ _ _ h2
   obtain ⟨T1,rfl⟩:=hone rfl
   rcases h3:takeB (· == [44]) r2 with _ | ⟨o2,r3⟩
   ·rw [args_3 h1 h2 h3]; exact f_args_3 rb f s r w hr hlen h6 hs hl hc o r1 h1 T1 r2 h2 h3
   ·rcases h4:PF f .cond r3 with ⟨ys,r4⟩ | q
    ·obtain ⟨_,hone2⟩:=PF_len _ _ _ _ _ h4
     obtain ⟨T2,rfl⟩:=hone2 rfl
     rw [args_5 h1 h2 h3 h4]; exact f_args_5 rb f s r w hr hlen h6 hs hl hc hcs o r1 h1 T1 r2 h2 o2 r3 h3 T2 r4 h4
    ·rw [args_4 h1 h2 h3 h4]; exact f_args_4 rb f s r w hr hlen h6 hs hl hc o r1 h1 T1 r2 h2 o2 r3 h3 q h4
  ·rw [args_2 h1 h2]; exact f_args_2 rb f s r w hr hlen h6 hs hl hc o r1 h1 q h2
theorem f_condition : ∀ f,CondC f := by
 intro f
 induction f using Nat.strongRecOn with
 | _ f ih =>
  cases f with
  | zero => intro rb s r w hr hlen; omega
  | succ f =>
   refine cond_step f fun rb s r w hr hlen h6 hs hl => ?_
   cases f with
   | zero => omega
   | succ g => exact args_step g (fun f' hf => ih f' (by omega)) rb s r w hr (by omega) h6 hs hl
theorem run_wrong (n : Int) (w : World) : (Instr.typeAssert (.iface 178 (.int .i64 n)) 20 178 true).run Tryz.prog w = .ok (.tuple #[.int .i64 n,.bool true]) w := by
 have h:=run_underlying (P:=Tryz.prog) (w:=w) Tryz.underlying178
 unfold Instr.typeAssert
 simp only [Sem.run_bind,h,Result.andThen_ok]
 simp [Sem.run]
def NormQ (w0 : World) (e : Exit) (a : Act) (w : World) : Prop := e = .normal ∧ a.defers = [] ∧ w = w0
set_option maxRecDepth 100000 in
set_option maxHeartbeats 1000000 in
theorem catch_idle (p : Addr) (w : World) :
  CallsD Tryz.prog 127 #[.pointer (some p)] .returning w fun e u' w' => e=.returned (.tuple #[]) ∧ u'=.returning ∧ w'=w:=by
 refine callsD_of_wpS Tryz.func127 rfl fun c₀ cs hu => ?_
 apply wpS_seq
 apply wpS_region
 simp [wpOpsS,go_sem,recoverD,hu,Tryz.ntmps127,Exit.thenS]
 simp only [Array.replicate_succ,Array.replicate_zero,List.push_toArray,List.append_toArray,List.nil_append,List.cons_append,List.setIfInBounds_toArray,List.set_cons_zero,List.set_cons_succ]
 refine wpS_of_wp (Code.wp_mono (Q:=NormQ w) (fun e a w' h => ?_) ?_)
 ·obtain ⟨rfl,h2,rfl⟩:=h
  exact ⟨h2,.returning,by cases c₀; simp_all,_,results_none rfl _ _ _,rfl,rfl,rfl⟩
 ·go_wp2_with fail
  exact ⟨rfl,rfl,rfl⟩
set_option maxRecDepth 100000 in
set_option maxHeartbeats 1000000 in
theorem catch_panicking (p : Addr) (x n : Int) (w : World) (hc : w.cell? p = some (.int .i64 x)) (hz : w.frozen? p = false) :
  CallsD Tryz.prog 127 #[.pointer (some p)] (.panicking (wrongCh n)) w fun e u' w' =>
   e=.returned (.tuple #[]) ∧ u'=.panicking [{ v:=.iface 178 (.int .i64 n),recovered:=true }] ∧ w'=w.setCell p (.int .i64 n):=by
 unfold wrongCh
 refine callsD_of_wpS Tryz.func127 rfl fun c₀ cs hu => ?_
 apply wpS_seq
 apply wpS_region
 simp [wpOpsS,go_sem,recoverD,hu,Tryz.ntmps127,Exit.thenS]
 simp only [Array.replicate_succ,Array.replicate_zero,List.push_toArray,List.append_toArray,List.nil_append,List.cons_append,List.setIfInBounds_toArray,List.set_cons_zero,List.set_cons_succ]
 clear hu
 have HW:=run_wrong n w
 refine wpS_of_wp (Code.wp_mono (Q:=NormQ (w.setCell p (.int .i64 n))) (fun e a w' h => ?_) ?_)
 ·obtain ⟨rfl,h2,rfl⟩:=h
  exact ⟨h2,_,rfl,_,results_none rfl _ _ _,rfl,rfl,rfl⟩
 ·go_wp2_with fail
  exact ⟨rfl,rfl,rfl⟩
end Go.Proofs.YtgdngfdeeadlnaaGreatDoor
