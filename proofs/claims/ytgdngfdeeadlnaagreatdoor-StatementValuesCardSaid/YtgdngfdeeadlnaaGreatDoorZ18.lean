/- Contracts: a condition is read: the terms without parts. -/
import Derived.Test.YtgdngfdeeadlnaaGreatDoorZ17
set_option linter.unusedVariables false
set_option linter.unusedSimpArgs false
namespace Go.Proofs.YtgdngfdeeadlnaaGreatDoor
open Go.RowKit Num
abbrev kdP (w : List UInt8) : Bool := decide (0 < kindB w)
theorem t_kind (rb : Nat) (s : ByteArray) (r : List UInt8) (w : World) (hr : Rd w rb s r) (hs : s.size ≤ 100000) (hl : ParOk w) :
  Calls Tryz.prog 160 #[.pointer (some ⟨rb,0,none⟩),.func (.func 161) #[] #[]] w (TakePost w rb s r (takeB kdP r)) :=
 f_take rb 161 s r kdP w hr hs hl (callFunc_body Tryz.func161 (by kernel_rfl) (by kernel_rfl)) (fun n _ => g_kind (wordB r) _)
theorem t_name (rb : Nat) (s : ByteArray) (r : List UInt8) (w : World) (hr : Rd w rb s r) (hs : s.size ≤ 100000) (hl : ParOk w) :
  Calls Tryz.prog 160 #[.pointer (some ⟨rb,0,none⟩),.func (.func 107) #[] #[]] w (TakePost w rb s r (takeB nameB r)) :=
 f_take rb 107 s r nameB w hr hs hl (callFunc_body Tryz.func107 (by kernel_rfl) (by kernel_rfl)) (fun n _ => by
  have h1:=hr.pos.2.2.2
  have h2:=word_len r
  have:=f_Name (bsOf (wordB r)) (w.drewN n) (by rw [bsOf_data']; omega)
  rwa [blOf_bsOf] at this)
theorem t_quote (rb : Nat) (s : ByteArray) (r : List UInt8) (w : World) (hr : Rd w rb s r) (hs : s.size ≤ 100000) (hl : ParOk w) :
  Calls Tryz.prog 160 #[.pointer (some ⟨rb,0,none⟩),.func (.func 165) #[] #[]] w (TakePost w rb s r (takeB (fun x => x.headD 0 == 34) r)) :=
 f_take rb 165 s r (fun x => x.headD 0 == 34) w hr hs hl (callFunc_body Tryz.func165 (by kernel_rfl) (by kernel_rfl)) (fun n h => g_quote (wordB r) _ h)
theorem grown_new {w w3 : World} {row : Option Nat} (hg : w.grownBy w3 row) (b o : Nat) (hb : w.heap.size ≤ b) (v : Value) : w.grownBy (w3.setCell ⟨b,o,none⟩ v) row :=
 ⟨hg.os,hg.tape,hg.output,by have:=hg.size; simpa [World.setCell] using this,fun i hi hn => (Below.heap_setCell w3 ⟨b,o,none⟩ v i (by show i ≠ b; omega)).trans (hg.block i hi hn)⟩
abbrev zeroT : Array Value := tz 0 0 0 ⟨#[]⟩ ⟨#[]⟩ (.slice none 0 0)
theorem blk_start (w : World) : Blk (w.alloc (.cells zeroT 169)) w.heap.size 169 zeroT := Blk.new _ _ _
set_option maxRecDepth 100000 in
set_option maxHeartbeats 2000000 in
theorem f_cond_bad (rb f : Nat) (s : ByteArray) (r : List UInt8) (w : World) (hr : Rd w rb s r) (h6 : 7 < rb) (hs : s.size ≤ 100000) (hl : ParOk w) (ht : takeB kdP r = none) : Calls Tryz.prog 129 #[.pointer (some ⟨rb,0,none⟩)] w (CondPost w rb s (f + 1) (.bad r)) := by
 have hrl:=hr.lt
 have hb1:Below w.heap.size w (w.alloc (.cells zeroT 169)):=(Below.refl _ _).alloc (Nat.le_refl _) _
 have H1:=Lib.hid (t_kind rb s r _ (hr.below hb1) hs (hl.later hb1))
 have hne:rb ≠ w.heap.size:=by omega
 have HG1:=Lib.hid (only_of_below hb1 (some rb))
 have HL1:=Lib.hid (hl.later hb1)
 have HBK1:=Lib.hid (blk_start w)
 have HT:=Lib.hid ht
 clear hr hl hb1 ht
 go_enter Tryz.func129,Tryz.ntmps129
 go_wp2_with fail
 refine H1.out.mono ?_
 rw [HT.out]
 rintro e w1 ⟨hg,rfl⟩
 go_wp2_with fail
 exact ⟨rfl,HG1.out.trans hg,rfl⟩
set_option maxRecDepth 100000 in
set_option maxHeartbeats 2000000 in
theorem f_cond_6 (rb f : Nat) (s : ByteArray) (r : List UInt8) (w : World) (hr : Rd w rb s r) (h6 : 7 < rb) (hs : s.size ≤ 100000) (hl : ParOk w) (wd r1 : List UInt8) (ht : takeB kdP r = some (wd,r1)) (hk : kindB wd = 6) : Calls Tryz.prog 129 #[.pointer (some ⟨rb,0,none⟩)] w (CondPost w rb s (f + 1) (.ok [.node (mkT 6 0 0 E0 E0) []] r1)) := by
 have HK:=Lib.hid hk
 clear hk
 have hrl:=hr.lt
 have hb1:Below w.heap.size w (w.alloc (.cells zeroT 169)):=(Below.refl _ _).alloc (Nat.le_refl _) _
 have H1:=Lib.hid (t_kind rb s r _ (hr.below hb1) hs (hl.later hb1))
 have hne:rb ≠ w.heap.size:=by omega
 have HG1:=Lib.hid (only_of_below hb1 (some rb))
 have HL1:=Lib.hid (hl.later hb1)
 have HBK1:=Lib.hid (blk_start w)
 have HT:=Lib.hid ht
 clear hr hl hb1 ht
 go_enter Tryz.func129,Tryz.ntmps129
 go_wp2_with fail
 refine H1.out.mono ?_
 rw [HT.out]
 rintro e w2 ⟨hg2,rfl,hrd2⟩
 have hne':some w.heap.size ≠ some rb:=fun e => by injection e with e; omega
 have hblk2:=Blk.grown' HBK1.out hg2 hne'
 have hl2:ParOk w2:=HL1.out.grown hg2 (fun b hb => by injection hb with hb; omega)
 have HRD2:=Lib.hid hrd2
 have HG2:=Lib.hid (HG1.out.trans hg2)
 have HBK2:=Lib.hid hblk2
 have HL2:=Lib.hid hl2
 have hs2:=hg2.size
 have hsz2:w.heap.size < w2.heap.size:=hblk2.lt
 clear hg2 hrd2 hblk2 hl2
 go_wp2_with fail
 refine (f_kindOf (bsOf wd) _).mono ?_
 rw [blOf_bsOf,HK.out]
 rintro e w3 ⟨rfl,hb3⟩
 have hblk3:=HBK2.out.below' hb3 hsz2
 have k0:=(hblk3.cell 0).trans (show _=some (Value.int .i64 0) from rfl)
 have f0:=hblk3.frozen 0
 have HRD3:=Lib.hid (HRD2.out.below hb3)
 have HG3:=Lib.hid (HG2.out.trans (only_of_below hb3 (some rb)))
 have HL3:=Lib.hid (HL2.out.later hb3)
 have HBK4:=Lib.hid (show Blk (w3.setCell ⟨w.heap.size,0,none⟩ (.int .i64 6)) w.heap.size 169 (tz 6 0 0 ⟨#[]⟩ ⟨#[]⟩ (.slice none 0 0)) from hblk3.set_ 0 _)
 have k4:=(HBK4.out.cell 0).trans (show _=some (Value.int .i64 6) from rfl)
 have HG4:=Lib.hid (grown_new HG3.out w.heap.size 0 (Nat.le_refl _) (.int .i64 6))
 clear hb3 hblk3
 go_wp2_with fail
 go_ret
 refine ⟨HG4.out,_,rfl,HRD3.out.keep (Below.heap_setCell w3 ⟨w.heap.size,0,none⟩ _ rb hne),tz_leaf HBK4.out (Nat.le_refl _)⟩
set_option maxRecDepth 100000 in
set_option maxHeartbeats 2000000 in
theorem f_cond_8 (rb f : Nat) (s : ByteArray) (r : List UInt8) (w : World) (hr : Rd w rb s r) (h6 : 7 < rb) (hs : s.size ≤ 100000) (hl : ParOk w) (wd r1 : List UInt8) (ht : takeB kdP r = some (wd,r1)) (hk : kindB wd = 8) : Calls Tryz.prog 129 #[.pointer (some ⟨rb,0,none⟩)] w (CondPost w rb s (f + 1) (.ok [.node (mkT 8 0 0 E0 E0) []] r1)) := by
 have HK:=Lib.hid hk
 clear hk
 have hrl:=hr.lt
 have hb1:Below w.heap.size w (w.alloc (.cells zeroT 169)):=(Below.refl _ _).alloc (Nat.le_refl _) _
 have H1:=Lib.hid (t_kind rb s r _ (hr.below hb1) hs (hl.later hb1))
 have hne:rb ≠ w.heap.size:=by omega
 have HG1:=Lib.hid (only_of_below hb1 (some rb))
 have HL1:=Lib.hid (hl.later hb1)
 have HBK1:=Lib.hid (blk_start w)
 have HT:=Lib.hid ht
 clear hr hl hb1 ht
 go_enter Tryz.func129,Tryz.ntmps129
 go_wp2_with fail
 refine H1.out.mono ?_
 rw [HT.out]
 rintro e w2 ⟨hg2,rfl,hrd2⟩
 have hne':some w.heap.size ≠ some rb:=fun e => by injection e with e; omega
 have hblk2:=Blk.grown' HBK1.out hg2 hne'
 have hl2:ParOk w2:=HL1.out.grown hg2 (fun b hb => by injection hb with hb; omega)
 have HRD2:=Lib.hid hrd2
 have HG2:=Lib.hid (HG1.out.trans hg2)
 have HBK2:=Lib.hid hblk2
 have HL2:=Lib.hid hl2
 have hs2:=hg2.size
 have hsz2:w.heap.size < w2.heap.size:=hblk2.lt
 clear hg2 hrd2 hblk2 hl2
 go_wp2_with fail
 refine (f_kindOf (bsOf wd) _).mono ?_
 rw [blOf_bsOf,HK.out]
 rintro e w3 ⟨rfl,hb3⟩
 have hblk3:=HBK2.out.below' hb3 hsz2
 have k0:=(hblk3.cell 0).trans (show _=some (Value.int .i64 0) from rfl)
 have f0:=hblk3.frozen 0
 have HRD3:=Lib.hid (HRD2.out.below hb3)
 have HG3:=Lib.hid (HG2.out.trans (only_of_below hb3 (some rb)))
 have HL3:=Lib.hid (HL2.out.later hb3)
 have HBK4:=Lib.hid (show Blk (w3.setCell ⟨w.heap.size,0,none⟩ (.int .i64 8)) w.heap.size 169 (tz 8 0 0 ⟨#[]⟩ ⟨#[]⟩ (.slice none 0 0)) from hblk3.set_ 0 _)
 have k4:=(HBK4.out.cell 0).trans (show _=some (Value.int .i64 8) from rfl)
 have HG4:=Lib.hid (grown_new HG3.out w.heap.size 0 (Nat.le_refl _) (.int .i64 8))
 clear hb3 hblk3
 go_wp2_with fail
 go_ret
 refine ⟨HG4.out,_,rfl,HRD3.out.keep (Below.heap_setCell w3 ⟨w.heap.size,0,none⟩ _ rb hne),tz_leaf HBK4.out (Nat.le_refl _)⟩
theorem quote_len {r : List UInt8} (h0 : wordB r ≠ []) (h : (wordB r).headD 0 = 34) : 2 ≤ (wordB r).length := by
 cases r with
 | nil => exact absurd rfl h0
 | cons c cs =>
  rw [wordB_cons] at h h0 ⊢
  by_cases hs:signB c=true
  ·rw [if_pos hs] at h
   simp at h; subst h; exact absurd hs (by decide)
  ·rw [if_neg hs] at h h0 ⊢
   by_cases hq:c=34
   ·rw [if_pos hq] at h h0 ⊢
    by_cases hm:34 ∈ cs
    ·rw [if_pos hm]; simp
    ·rw [if_neg hm] at h0; exact absurd rfl h0
   ·rw [if_neg hq] at h h0
    rw [List.takeWhile_cons] at h h0
    split at h
    ·simp at h; exact absurd h hq
    ·simp at h
set_option maxRecDepth 100000 in
set_option maxHeartbeats 2000000 in
theorem f_cond_3b (rb f : Nat) (s : ByteArray) (r : List UInt8) (w : World) (hr : Rd w rb s r) (h6 : 7 < rb) (hs : s.size ≤ 100000) (hl : ParOk w) (wd r1 : List UInt8) (ht : takeB kdP r = some (wd,r1)) (hk : kindB wd = 3) (hx0 : numF r1 = none) : Calls Tryz.prog 129 #[.pointer (some ⟨rb,0,none⟩)] w (CondPost w rb s (f + 1) (.bad r1)) := by
 have HK:=Lib.hid hk
 clear hk
 have HX0:=Lib.hid hx0
 clear hx0
 have hrl:=hr.lt
 have hb1:Below w.heap.size w (w.alloc (.cells zeroT 169)):=(Below.refl _ _).alloc (Nat.le_refl _) _
 have H1:=Lib.hid (t_kind rb s r _ (hr.below hb1) hs (hl.later hb1))
 have hne:rb ≠ w.heap.size:=by omega
 have HG1:=Lib.hid (only_of_below hb1 (some rb))
 have HL1:=Lib.hid (hl.later hb1)
 have HBK1:=Lib.hid (blk_start w)
 have HT:=Lib.hid ht
 clear hr hl hb1 ht
 go_enter Tryz.func129,Tryz.ntmps129
 go_wp2_with fail
 refine H1.out.mono ?_
 rw [HT.out]
 rintro e w2 ⟨hg2,rfl,hrd2⟩
 have hne':some w.heap.size ≠ some rb:=fun e => by injection e with e; omega
 have hblk2:=Blk.grown' HBK1.out hg2 hne'
 have hl2:ParOk w2:=HL1.out.grown hg2 (fun b hb => by injection hb with hb; omega)
 have HRD2:=Lib.hid hrd2
 have HG2:=Lib.hid (HG1.out.trans hg2)
 have HBK2:=Lib.hid hblk2
 have HL2:=Lib.hid hl2
 have hs2:=hg2.size
 have hsz2:w.heap.size < w2.heap.size:=hblk2.lt
 clear hg2 hrd2 hblk2 hl2
 go_wp2_with fail
 refine (f_kindOf (bsOf wd) _).mono ?_
 rw [blOf_bsOf,HK.out]
 rintro e w3 ⟨rfl,hb3⟩
 have hblk3:=HBK2.out.below' hb3 hsz2
 have k0:=(hblk3.cell 0).trans (show _=some (Value.int .i64 0) from rfl)
 have f0:=hblk3.frozen 0
 have HRD3:=Lib.hid (HRD2.out.below hb3)
 have HG3:=Lib.hid (HG2.out.trans (only_of_below hb3 (some rb)))
 have HL3:=Lib.hid (HL2.out.later hb3)
 have HBK4:=Lib.hid (show Blk (w3.setCell ⟨w.heap.size,0,none⟩ (.int .i64 3)) w.heap.size 169 (tz 3 0 0 ⟨#[]⟩ ⟨#[]⟩ (.slice none 0 0)) from hblk3.set_ 0 _)
 have k4:=(HBK4.out.cell 0).trans (show _=some (Value.int .i64 3) from rfl)
 have HG4:=Lib.hid (grown_new HG3.out w.heap.size 0 (Nat.le_refl _) (.int .i64 3))
 have HRD4:=Lib.hid (HRD3.out.keep (Below.heap_setCell w3 ⟨w.heap.size,0,none⟩ (.int .i64 3) rb hne))
 have HL4:=Lib.hid (HL3.out.grown (grown_set w3 ⟨w.heap.size,0,none⟩ (.int .i64 3)) (fun b hb => by injection hb with hb; have:w.heap.size=b:=hb; omega))
 clear hb3 hblk3
 go_wp2_with fail
 refine (f_number rb s r1 _ HRD4.out h6 hs HL4.out).mono ?_
 rw [HX0.out]
 rintro e w5 ⟨hg5,rfl⟩
 go_wp2_with fail
 exact ⟨rfl,HG4.out.trans hg5,rfl⟩
set_option maxRecDepth 100000 in
set_option maxHeartbeats 2000000 in
theorem f_cond_3 (rb f : Nat) (s : ByteArray) (r : List UInt8) (w : World) (hr : Rd w rb s r) (h6 : 7 < rb) (hs : s.size ≤ 100000) (hl : ParOk w) (wd r1 : List UInt8) (ht : takeB kdP r = some (wd,r1)) (hk : kindB wd = 3) (n : Int) (r2 : List UInt8) (hx0 : numF r1 = some (n,r2)) : Calls Tryz.prog 129 #[.pointer (some ⟨rb,0,none⟩)] w (CondPost w rb s (f + 1) (.ok [.node (mkT 3 n 0 ⟨#[]⟩ ⟨#[]⟩) []] r2)) := by
 have HK:=Lib.hid hk
 clear hk
 have HX0:=Lib.hid hx0
 clear hx0
 have hrl:=hr.lt
 have hb1:Below w.heap.size w (w.alloc (.cells zeroT 169)):=(Below.refl _ _).alloc (Nat.le_refl _) _
 have H1:=Lib.hid (t_kind rb s r _ (hr.below hb1) hs (hl.later hb1))
 have hne:rb ≠ w.heap.size:=by omega
 have HG1:=Lib.hid (only_of_below hb1 (some rb))
 have HL1:=Lib.hid (hl.later hb1)
 have HBK1:=Lib.hid (blk_start w)
 have HT:=Lib.hid ht
 clear hr hl hb1 ht
 go_enter Tryz.func129,Tryz.ntmps129
 go_wp2_with fail
 refine H1.out.mono ?_
 rw [HT.out]
 rintro e w2 ⟨hg2,rfl,hrd2⟩
 have hne':some w.heap.size ≠ some rb:=fun e => by injection e with e; omega
 have hblk2:=Blk.grown' HBK1.out hg2 hne'
 have hl2:ParOk w2:=HL1.out.grown hg2 (fun b hb => by injection hb with hb; omega)
 have HRD2:=Lib.hid hrd2
 have HG2:=Lib.hid (HG1.out.trans hg2)
 have HBK2:=Lib.hid hblk2
 have HL2:=Lib.hid hl2
 have hs2:=hg2.size
 have hsz2:w.heap.size < w2.heap.size:=hblk2.lt
 clear hg2 hrd2 hblk2 hl2
 go_wp2_with fail
 refine (f_kindOf (bsOf wd) _).mono ?_
 rw [blOf_bsOf,HK.out]
 rintro e w3 ⟨rfl,hb3⟩
 have hblk3:=HBK2.out.below' hb3 hsz2
 have k0:=(hblk3.cell 0).trans (show _=some (Value.int .i64 0) from rfl)
 have f0:=hblk3.frozen 0
 have HRD3:=Lib.hid (HRD2.out.below hb3)
 have HG3:=Lib.hid (HG2.out.trans (only_of_below hb3 (some rb)))
 have HL3:=Lib.hid (HL2.out.later hb3)
 have HBK4:=Lib.hid (show Blk (w3.setCell ⟨w.heap.size,0,none⟩ (.int .i64 3)) w.heap.size 169 (tz 3 0 0 ⟨#[]⟩ ⟨#[]⟩ (.slice none 0 0)) from hblk3.set_ 0 _)
 have k4:=(HBK4.out.cell 0).trans (show _=some (Value.int .i64 3) from rfl)
 have HG4:=Lib.hid (grown_new HG3.out w.heap.size 0 (Nat.le_refl _) (.int .i64 3))
 have HRD4:=Lib.hid (HRD3.out.keep (Below.heap_setCell w3 ⟨w.heap.size,0,none⟩ (.int .i64 3) rb hne))
 have HL4:=Lib.hid (HL3.out.grown (grown_set w3 ⟨w.heap.size,0,none⟩ (.int .i64 3)) (fun b hb => by injection hb with hb; have:w.heap.size=b:=hb; omega))
 clear hb3 hblk3
 go_wp2_with fail
 refine (f_number rb s r1 _ HRD4.out h6 hs HL4.out).mono ?_
 rw [HX0.out]
 rintro e w5 ⟨hg5,rfl,hrd5⟩
 have hblk5:=Blk.grown' HBK4.out hg5 hne'
 have HG5:=Lib.hid (HG4.out.trans hg5)
 have hl5:ParOk w5:=HL4.out.grown hg5 (fun b hb => by injection hb with hb; omega)
 have HL5:=Lib.hid hl5
 have HRD5:=Lib.hid hrd5
 have c5:=(hblk5.cell 1).trans (show _=some (Value.int .i64 0) from rfl)
 have f5:=hblk5.frozen 1
 have HBK6:=Lib.hid (show Blk (w5.setCell ⟨w.heap.size,1,none⟩ (.int .i64 n)) w.heap.size 169 (tz 3 n 0 ⟨#[]⟩ ⟨#[]⟩ (.slice none 0 0)) from hblk5.set_ 1 _)
 have HG6:=Lib.hid (grown_new HG5.out w.heap.size 1 (Nat.le_refl _) (.int .i64 n))
 have HRD6:=Lib.hid (HRD5.out.keep (Below.heap_setCell w5 ⟨w.heap.size,1,none⟩ (.int .i64 n) rb hne))
 have HL6:=Lib.hid (HL5.out.grown (grown_set w5 ⟨w.heap.size,1,none⟩ (.int .i64 n)) (fun b hb => by injection hb with hb; have:w.heap.size=b:=hb; omega))
 clear hg5 hrd5 hblk5 hl5
 go_wp2_with fail
 go_ret
 exact ⟨HG6.out,_,rfl,HRD6.out,tz_leaf HBK6.out (Nat.le_refl _)⟩
set_option maxRecDepth 100000 in
set_option maxHeartbeats 2000000 in
theorem f_cond_4b (rb f : Nat) (s : ByteArray) (r : List UInt8) (w : World) (hr : Rd w rb s r) (h6 : 7 < rb) (hs : s.size ≤ 100000) (hl : ParOk w) (wd r1 : List UInt8) (ht : takeB kdP r = some (wd,r1)) (hk : kindB wd = 4) (hx0 : numF r1 = none) : Calls Tryz.prog 129 #[.pointer (some ⟨rb,0,none⟩)] w (CondPost w rb s (f + 1) (.bad r1)) := by
 have HK:=Lib.hid hk
 clear hk
 have HX0:=Lib.hid hx0
 clear hx0
 have hrl:=hr.lt
 have hb1:Below w.heap.size w (w.alloc (.cells zeroT 169)):=(Below.refl _ _).alloc (Nat.le_refl _) _
 have H1:=Lib.hid (t_kind rb s r _ (hr.below hb1) hs (hl.later hb1))
 have hne:rb ≠ w.heap.size:=by omega
 have HG1:=Lib.hid (only_of_below hb1 (some rb))
 have HL1:=Lib.hid (hl.later hb1)
 have HBK1:=Lib.hid (blk_start w)
 have HT:=Lib.hid ht
 clear hr hl hb1 ht
 go_enter Tryz.func129,Tryz.ntmps129
 go_wp2_with fail
 refine H1.out.mono ?_
 rw [HT.out]
 rintro e w2 ⟨hg2,rfl,hrd2⟩
 have hne':some w.heap.size ≠ some rb:=fun e => by injection e with e; omega
 have hblk2:=Blk.grown' HBK1.out hg2 hne'
 have hl2:ParOk w2:=HL1.out.grown hg2 (fun b hb => by injection hb with hb; omega)
 have HRD2:=Lib.hid hrd2
 have HG2:=Lib.hid (HG1.out.trans hg2)
 have HBK2:=Lib.hid hblk2
 have HL2:=Lib.hid hl2
 have hs2:=hg2.size
 have hsz2:w.heap.size < w2.heap.size:=hblk2.lt
 clear hg2 hrd2 hblk2 hl2
 go_wp2_with fail
 refine (f_kindOf (bsOf wd) _).mono ?_
 rw [blOf_bsOf,HK.out]
 rintro e w3 ⟨rfl,hb3⟩
 have hblk3:=HBK2.out.below' hb3 hsz2
 have k0:=(hblk3.cell 0).trans (show _=some (Value.int .i64 0) from rfl)
 have f0:=hblk3.frozen 0
 have HRD3:=Lib.hid (HRD2.out.below hb3)
 have HG3:=Lib.hid (HG2.out.trans (only_of_below hb3 (some rb)))
 have HL3:=Lib.hid (HL2.out.later hb3)
 have HBK4:=Lib.hid (show Blk (w3.setCell ⟨w.heap.size,0,none⟩ (.int .i64 4)) w.heap.size 169 (tz 4 0 0 ⟨#[]⟩ ⟨#[]⟩ (.slice none 0 0)) from hblk3.set_ 0 _)
 have k4:=(HBK4.out.cell 0).trans (show _=some (Value.int .i64 4) from rfl)
 have HG4:=Lib.hid (grown_new HG3.out w.heap.size 0 (Nat.le_refl _) (.int .i64 4))
 have HRD4:=Lib.hid (HRD3.out.keep (Below.heap_setCell w3 ⟨w.heap.size,0,none⟩ (.int .i64 4) rb hne))
 have HL4:=Lib.hid (HL3.out.grown (grown_set w3 ⟨w.heap.size,0,none⟩ (.int .i64 4)) (fun b hb => by injection hb with hb; have:w.heap.size=b:=hb; omega))
 clear hb3 hblk3
 go_wp2_with fail
 refine (f_number rb s r1 _ HRD4.out h6 hs HL4.out).mono ?_
 rw [HX0.out]
 rintro e w5 ⟨hg5,rfl⟩
 go_wp2_with fail
 exact ⟨rfl,HG4.out.trans hg5,rfl⟩
set_option maxRecDepth 100000 in
set_option maxHeartbeats 2000000 in
theorem f_cond_4 (rb f : Nat) (s : ByteArray) (r : List UInt8) (w : World) (hr : Rd w rb s r) (h6 : 7 < rb) (hs : s.size ≤ 100000) (hl : ParOk w) (wd r1 : List UInt8) (ht : takeB kdP r = some (wd,r1)) (hk : kindB wd = 4) (n : Int) (r2 : List UInt8) (hx0 : numF r1 = some (n,r2)) : Calls Tryz.prog 129 #[.pointer (some ⟨rb,0,none⟩)] w (CondPost w rb s (f + 1) (.ok [.node (mkT 4 n 0 ⟨#[]⟩ ⟨#[]⟩) []] r2)) := by
 have HK:=Lib.hid hk
 clear hk
 have HX0:=Lib.hid hx0
 clear hx0
 have hrl:=hr.lt
 have hb1:Below w.heap.size w (w.alloc (.cells zeroT 169)):=(Below.refl _ _).alloc (Nat.le_refl _) _
 have H1:=Lib.hid (t_kind rb s r _ (hr.below hb1) hs (hl.later hb1))
 have hne:rb ≠ w.heap.size:=by omega
 have HG1:=Lib.hid (only_of_below hb1 (some rb))
 have HL1:=Lib.hid (hl.later hb1)
 have HBK1:=Lib.hid (blk_start w)
 have HT:=Lib.hid ht
 clear hr hl hb1 ht
 go_enter Tryz.func129,Tryz.ntmps129
 go_wp2_with fail
 refine H1.out.mono ?_
 rw [HT.out]
 rintro e w2 ⟨hg2,rfl,hrd2⟩
 have hne':some w.heap.size ≠ some rb:=fun e => by injection e with e; omega
 have hblk2:=Blk.grown' HBK1.out hg2 hne'
 have hl2:ParOk w2:=HL1.out.grown hg2 (fun b hb => by injection hb with hb; omega)
 have HRD2:=Lib.hid hrd2
 have HG2:=Lib.hid (HG1.out.trans hg2)
 have HBK2:=Lib.hid hblk2
 have HL2:=Lib.hid hl2
 have hs2:=hg2.size
 have hsz2:w.heap.size < w2.heap.size:=hblk2.lt
 clear hg2 hrd2 hblk2 hl2
 go_wp2_with fail
 refine (f_kindOf (bsOf wd) _).mono ?_
 rw [blOf_bsOf,HK.out]
 rintro e w3 ⟨rfl,hb3⟩
 have hblk3:=HBK2.out.below' hb3 hsz2
 have k0:=(hblk3.cell 0).trans (show _=some (Value.int .i64 0) from rfl)
 have f0:=hblk3.frozen 0
 have HRD3:=Lib.hid (HRD2.out.below hb3)
 have HG3:=Lib.hid (HG2.out.trans (only_of_below hb3 (some rb)))
 have HL3:=Lib.hid (HL2.out.later hb3)
 have HBK4:=Lib.hid (show Blk (w3.setCell ⟨w.heap.size,0,none⟩ (.int .i64 4)) w.heap.size 169 (tz 4 0 0 ⟨#[]⟩ ⟨#[]⟩ (.slice none 0 0)) from hblk3.set_ 0 _)
 have k4:=(HBK4.out.cell 0).trans (show _=some (Value.int .i64 4) from rfl)
 have HG4:=Lib.hid (grown_new HG3.out w.heap.size 0 (Nat.le_refl _) (.int .i64 4))
 have HRD4:=Lib.hid (HRD3.out.keep (Below.heap_setCell w3 ⟨w.heap.size,0,none⟩ (.int .i64 4) rb hne))
 have HL4:=Lib.hid (HL3.out.grown (grown_set w3 ⟨w.heap.size,0,none⟩ (.int .i64 4)) (fun b hb => by injection hb with hb; have:w.heap.size=b:=hb; omega))
 clear hb3 hblk3
 go_wp2_with fail
 refine (f_number rb s r1 _ HRD4.out h6 hs HL4.out).mono ?_
 rw [HX0.out]
 rintro e w5 ⟨hg5,rfl,hrd5⟩
 have hblk5:=Blk.grown' HBK4.out hg5 hne'
 have HG5:=Lib.hid (HG4.out.trans hg5)
 have hl5:ParOk w5:=HL4.out.grown hg5 (fun b hb => by injection hb with hb; omega)
 have HL5:=Lib.hid hl5
 have HRD5:=Lib.hid hrd5
 have c5:=(hblk5.cell 1).trans (show _=some (Value.int .i64 0) from rfl)
 have f5:=hblk5.frozen 1
 have HBK6:=Lib.hid (show Blk (w5.setCell ⟨w.heap.size,1,none⟩ (.int .i64 n)) w.heap.size 169 (tz 4 n 0 ⟨#[]⟩ ⟨#[]⟩ (.slice none 0 0)) from hblk5.set_ 1 _)
 have HG6:=Lib.hid (grown_new HG5.out w.heap.size 1 (Nat.le_refl _) (.int .i64 n))
 have HRD6:=Lib.hid (HRD5.out.keep (Below.heap_setCell w5 ⟨w.heap.size,1,none⟩ (.int .i64 n) rb hne))
 have HL6:=Lib.hid (HL5.out.grown (grown_set w5 ⟨w.heap.size,1,none⟩ (.int .i64 n)) (fun b hb => by injection hb with hb; have:w.heap.size=b:=hb; omega))
 clear hg5 hrd5 hblk5 hl5
 go_wp2_with fail
 go_ret
 exact ⟨HG6.out,_,rfl,HRD6.out,tz_leaf HBK6.out (Nat.le_refl _)⟩
set_option maxRecDepth 100000 in
set_option maxHeartbeats 2000000 in
theorem f_cond_7a (rb f : Nat) (s : ByteArray) (r : List UInt8) (w : World) (hr : Rd w rb s r) (h6 : 7 < rb) (hs : s.size ≤ 100000) (hl : ParOk w) (wd r1 : List UInt8) (ht : takeB kdP r = some (wd,r1)) (hk : kindB wd = 7) (hx0 : takeB nameB r1 = none) : Calls Tryz.prog 129 #[.pointer (some ⟨rb,0,none⟩)] w (CondPost w rb s (f + 1) (.bad r1)) := by
 have HK:=Lib.hid hk
 clear hk
 have HX0:=Lib.hid hx0
 clear hx0
 have hrl:=hr.lt
 have hb1:Below w.heap.size w (w.alloc (.cells zeroT 169)):=(Below.refl _ _).alloc (Nat.le_refl _) _
 have H1:=Lib.hid (t_kind rb s r _ (hr.below hb1) hs (hl.later hb1))
 have hne:rb ≠ w.heap.size:=by omega
 have HG1:=Lib.hid (only_of_below hb1 (some rb))
 have HL1:=Lib.hid (hl.later hb1)
 have HBK1:=Lib.hid (blk_start w)
 have HT:=Lib.hid ht
 clear hr hl hb1 ht
 go_enter Tryz.func129,Tryz.ntmps129
 go_wp2_with fail
 refine H1.out.mono ?_
 rw [HT.out]
 rintro e w2 ⟨hg2,rfl,hrd2⟩
 have hne':some w.heap.size ≠ some rb:=fun e => by injection e with e; omega
 have hblk2:=Blk.grown' HBK1.out hg2 hne'
 have hl2:ParOk w2:=HL1.out.grown hg2 (fun b hb => by injection hb with hb; omega)
 have HRD2:=Lib.hid hrd2
 have HG2:=Lib.hid (HG1.out.trans hg2)
 have HBK2:=Lib.hid hblk2
 have HL2:=Lib.hid hl2
 have hs2:=hg2.size
 have hsz2:w.heap.size < w2.heap.size:=hblk2.lt
 clear hg2 hrd2 hblk2 hl2
 go_wp2_with fail
 refine (f_kindOf (bsOf wd) _).mono ?_
 rw [blOf_bsOf,HK.out]
 rintro e w3 ⟨rfl,hb3⟩
 have hblk3:=HBK2.out.below' hb3 hsz2
 have k0:=(hblk3.cell 0).trans (show _=some (Value.int .i64 0) from rfl)
 have f0:=hblk3.frozen 0
 have HRD3:=Lib.hid (HRD2.out.below hb3)
 have HG3:=Lib.hid (HG2.out.trans (only_of_below hb3 (some rb)))
 have HL3:=Lib.hid (HL2.out.later hb3)
 have HBK4:=Lib.hid (show Blk (w3.setCell ⟨w.heap.size,0,none⟩ (.int .i64 7)) w.heap.size 169 (tz 7 0 0 ⟨#[]⟩ ⟨#[]⟩ (.slice none 0 0)) from hblk3.set_ 0 _)
 have k4:=(HBK4.out.cell 0).trans (show _=some (Value.int .i64 7) from rfl)
 have HG4:=Lib.hid (grown_new HG3.out w.heap.size 0 (Nat.le_refl _) (.int .i64 7))
 have HRD4:=Lib.hid (HRD3.out.keep (Below.heap_setCell w3 ⟨w.heap.size,0,none⟩ (.int .i64 7) rb hne))
 have HL4:=Lib.hid (HL3.out.grown (grown_set w3 ⟨w.heap.size,0,none⟩ (.int .i64 7)) (fun b hb => by injection hb with hb; have:w.heap.size=b:=hb; omega))
 clear hb3 hblk3
 go_wp2_with fail
 refine (t_name rb s r1 _ HRD4.out hs HL4.out).mono ?_
 rw [HX0.out]
 rintro e w5 ⟨hg5,rfl⟩
 go_wp2_with fail
 exact ⟨rfl,HG4.out.trans hg5,rfl⟩
set_option maxRecDepth 100000 in
set_option maxHeartbeats 2000000 in
theorem f_cond_7b (rb f : Nat) (s : ByteArray) (r : List UInt8) (w : World) (hr : Rd w rb s r) (h6 : 7 < rb) (hs : s.size ≤ 100000) (hl : ParOk w) (wd r1 : List UInt8) (ht : takeB kdP r = some (wd,r1)) (hk : kindB wd = 7) (fd r2 : List UInt8) (hx0 : takeB nameB r1 = some (fd,r2)) (hx1 : takeB (fun x => x.headD 0 == 34) r2 = none) : Calls Tryz.prog 129 #[.pointer (some ⟨rb,0,none⟩)] w (CondPost w rb s (f + 1) (.bad r2)) := by
 have HK:=Lib.hid hk
 clear hk
 have HX0:=Lib.hid hx0
 clear hx0
 have HX1:=Lib.hid hx1
 clear hx1
 have hrl:=hr.lt
 have hb1:Below w.heap.size w (w.alloc (.cells zeroT 169)):=(Below.refl _ _).alloc (Nat.le_refl _) _
 have H1:=Lib.hid (t_kind rb s r _ (hr.below hb1) hs (hl.later hb1))
 have hne:rb ≠ w.heap.size:=by omega
 have HG1:=Lib.hid (only_of_below hb1 (some rb))
 have HL1:=Lib.hid (hl.later hb1)
 have HBK1:=Lib.hid (blk_start w)
 have HT:=Lib.hid ht
 clear hr hl hb1 ht
 go_enter Tryz.func129,Tryz.ntmps129
 go_wp2_with fail
 refine H1.out.mono ?_
 rw [HT.out]
 rintro e w2 ⟨hg2,rfl,hrd2⟩
 have hne':some w.heap.size ≠ some rb:=fun e => by injection e with e; omega
 have hblk2:=Blk.grown' HBK1.out hg2 hne'
 have hl2:ParOk w2:=HL1.out.grown hg2 (fun b hb => by injection hb with hb; omega)
 have HRD2:=Lib.hid hrd2
 have HG2:=Lib.hid (HG1.out.trans hg2)
 have HBK2:=Lib.hid hblk2
 have HL2:=Lib.hid hl2
 have hs2:=hg2.size
 have hsz2:w.heap.size < w2.heap.size:=hblk2.lt
 clear hg2 hrd2 hblk2 hl2
 go_wp2_with fail
 refine (f_kindOf (bsOf wd) _).mono ?_
 rw [blOf_bsOf,HK.out]
 rintro e w3 ⟨rfl,hb3⟩
 have hblk3:=HBK2.out.below' hb3 hsz2
 have k0:=(hblk3.cell 0).trans (show _=some (Value.int .i64 0) from rfl)
 have f0:=hblk3.frozen 0
 have HRD3:=Lib.hid (HRD2.out.below hb3)
 have HG3:=Lib.hid (HG2.out.trans (only_of_below hb3 (some rb)))
 have HL3:=Lib.hid (HL2.out.later hb3)
 have HBK4:=Lib.hid (show Blk (w3.setCell ⟨w.heap.size,0,none⟩ (.int .i64 7)) w.heap.size 169 (tz 7 0 0 ⟨#[]⟩ ⟨#[]⟩ (.slice none 0 0)) from hblk3.set_ 0 _)
 have k4:=(HBK4.out.cell 0).trans (show _=some (Value.int .i64 7) from rfl)
 have HG4:=Lib.hid (grown_new HG3.out w.heap.size 0 (Nat.le_refl _) (.int .i64 7))
 have HRD4:=Lib.hid (HRD3.out.keep (Below.heap_setCell w3 ⟨w.heap.size,0,none⟩ (.int .i64 7) rb hne))
 have HL4:=Lib.hid (HL3.out.grown (grown_set w3 ⟨w.heap.size,0,none⟩ (.int .i64 7)) (fun b hb => by injection hb with hb; have:w.heap.size=b:=hb; omega))
 clear hb3 hblk3
 go_wp2_with fail
 refine (t_name rb s r1 _ HRD4.out hs HL4.out).mono ?_
 rw [HX0.out]
 rintro e w5 ⟨hg5,rfl,hrd5⟩
 have hblk5:=Blk.grown' HBK4.out hg5 hne'
 have HG5:=Lib.hid (HG4.out.trans hg5)
 have hl5:ParOk w5:=HL4.out.grown hg5 (fun b hb => by injection hb with hb; omega)
 have HL5:=Lib.hid hl5
 have HRD5:=Lib.hid hrd5
 have c5:=(hblk5.cell 3).trans (show _=some (Value.string ⟨#[]⟩) from rfl)
 have f5:=hblk5.frozen 3
 have HBK6:=Lib.hid (show Blk (w5.setCell ⟨w.heap.size,3,none⟩ (.string (bsOf fd))) w.heap.size 169 (tz 7 0 0 (bsOf fd) ⟨#[]⟩ (.slice none 0 0)) from hblk5.set_ 3 _)
 have HG6:=Lib.hid (grown_new HG5.out w.heap.size 3 (Nat.le_refl _) (.string (bsOf fd)))
 have HRD6:=Lib.hid (HRD5.out.keep (Below.heap_setCell w5 ⟨w.heap.size,3,none⟩ (.string (bsOf fd)) rb hne))
 have HL6:=Lib.hid (HL5.out.grown (grown_set w5 ⟨w.heap.size,3,none⟩ (.string (bsOf fd))) (fun b hb => by injection hb with hb; have:w.heap.size=b:=hb; omega))
 clear hg5 hrd5 hblk5 hl5
 go_wp2_with fail
 refine (t_quote rb s r2 _ HRD6.out hs HL6.out).mono ?_
 rw [HX1.out]
 rintro e w7 ⟨hg7,rfl⟩
 go_wp2_with fail
 exact ⟨rfl,HG6.out.trans hg7,rfl⟩
set_option maxRecDepth 100000 in
set_option maxHeartbeats 2000000 in
theorem f_cond_7c (rb f : Nat) (s : ByteArray) (r : List UInt8) (w : World) (hr : Rd w rb s r) (h6 : 7 < rb) (hs : s.size ≤ 100000) (hl : ParOk w) (wd r1 : List UInt8) (ht : takeB kdP r = some (wd,r1)) (hk : kindB wd = 7) (fd r2 : List UInt8) (hx0 : takeB nameB r1 = some (fd,r2)) (tx r3 : List UInt8) (hx1 : takeB (fun x => x.headD 0 == 34) r2 = some (tx,r3)) (hx2 : takeB (· == ofB) r3 = none) : Calls Tryz.prog 129 #[.pointer (some ⟨rb,0,none⟩)] w (CondPost w rb s (f + 1) (.bad r3)) := by
 have HK:=Lib.hid hk
 clear hk
 have htx:=take_sp (a:=[]) hx1
 have ht2:2 ≤ tx.length:=by
  have h3:=htx.2.2.1
  have h4:tx.headD 0=34:=by simpa using h3
  rw [htx.2.1] at h4 ⊢
  exact quote_len htx.1 h4
 have htl:tx.length ≤ 100000:=by
  have h5:=word_len r2
  have h6':=take_len hx0
  have h7:=take_len ht
  have h8:=hr.pos.2.2.2
  rw [← htx.2.1] at h5; omega
 have hsz:=bsOf_data' tx
 have qs2:2 ≤ (bsOf tx).size:=by omega
 have qs3:(bsOf tx).size ≤ 100000:=by omega
 have hex:(bsOf tx).extract 1 ((bsOf tx).size - 1)=bsOf ((tx.drop 1).take (tx.length - 2)):=by
  rw [extract_drop,blOf_bsOf,hsz,Nat.sub_sub]
 have HEX:=Lib.hid hex
 clear htx ht2 htl hsz hex
 have HX0:=Lib.hid hx0
 clear hx0
 have HX1:=Lib.hid hx1
 clear hx1
 have HX2:=Lib.hid hx2
 clear hx2
 have hrl:=hr.lt
 have hb1:Below w.heap.size w (w.alloc (.cells zeroT 169)):=(Below.refl _ _).alloc (Nat.le_refl _) _
 have H1:=Lib.hid (t_kind rb s r _ (hr.below hb1) hs (hl.later hb1))
 have hne:rb ≠ w.heap.size:=by omega
 have HG1:=Lib.hid (only_of_below hb1 (some rb))
 have HL1:=Lib.hid (hl.later hb1)
 have HBK1:=Lib.hid (blk_start w)
 have HT:=Lib.hid ht
 clear hr hl hb1 ht
 go_enter Tryz.func129,Tryz.ntmps129
 go_wp2_with fail
 refine H1.out.mono ?_
 rw [HT.out]
 rintro e w2 ⟨hg2,rfl,hrd2⟩
 have hne':some w.heap.size ≠ some rb:=fun e => by injection e with e; omega
 have hblk2:=Blk.grown' HBK1.out hg2 hne'
 have hl2:ParOk w2:=HL1.out.grown hg2 (fun b hb => by injection hb with hb; omega)
 have HRD2:=Lib.hid hrd2
 have HG2:=Lib.hid (HG1.out.trans hg2)
 have HBK2:=Lib.hid hblk2
 have HL2:=Lib.hid hl2
 have hs2:=hg2.size
 have hsz2:w.heap.size < w2.heap.size:=hblk2.lt
 clear hg2 hrd2 hblk2 hl2
 go_wp2_with fail
 refine (f_kindOf (bsOf wd) _).mono ?_
 rw [blOf_bsOf,HK.out]
 rintro e w3 ⟨rfl,hb3⟩
 have hblk3:=HBK2.out.below' hb3 hsz2
 have k0:=(hblk3.cell 0).trans (show _=some (Value.int .i64 0) from rfl)
 have f0:=hblk3.frozen 0
 have HRD3:=Lib.hid (HRD2.out.below hb3)
 have HG3:=Lib.hid (HG2.out.trans (only_of_below hb3 (some rb)))
 have HL3:=Lib.hid (HL2.out.later hb3)
 have HBK4:=Lib.hid (show Blk (w3.setCell ⟨w.heap.size,0,none⟩ (.int .i64 7)) w.heap.size 169 (tz 7 0 0 ⟨#[]⟩ ⟨#[]⟩ (.slice none 0 0)) from hblk3.set_ 0 _)
 have k4:=(HBK4.out.cell 0).trans (show _=some (Value.int .i64 7) from rfl)
 have HG4:=Lib.hid (grown_new HG3.out w.heap.size 0 (Nat.le_refl _) (.int .i64 7))
 have HRD4:=Lib.hid (HRD3.out.keep (Below.heap_setCell w3 ⟨w.heap.size,0,none⟩ (.int .i64 7) rb hne))
 have HL4:=Lib.hid (HL3.out.grown (grown_set w3 ⟨w.heap.size,0,none⟩ (.int .i64 7)) (fun b hb => by injection hb with hb; have:w.heap.size=b:=hb; omega))
 clear hb3 hblk3
 go_wp2_with fail
 refine (t_name rb s r1 _ HRD4.out hs HL4.out).mono ?_
 rw [HX0.out]
 rintro e w5 ⟨hg5,rfl,hrd5⟩
 have hblk5:=Blk.grown' HBK4.out hg5 hne'
 have HG5:=Lib.hid (HG4.out.trans hg5)
 have hl5:ParOk w5:=HL4.out.grown hg5 (fun b hb => by injection hb with hb; omega)
 have HL5:=Lib.hid hl5
 have HRD5:=Lib.hid hrd5
 have c5:=(hblk5.cell 3).trans (show _=some (Value.string ⟨#[]⟩) from rfl)
 have f5:=hblk5.frozen 3
 have HBK6:=Lib.hid (show Blk (w5.setCell ⟨w.heap.size,3,none⟩ (.string (bsOf fd))) w.heap.size 169 (tz 7 0 0 (bsOf fd) ⟨#[]⟩ (.slice none 0 0)) from hblk5.set_ 3 _)
 have HG6:=Lib.hid (grown_new HG5.out w.heap.size 3 (Nat.le_refl _) (.string (bsOf fd)))
 have HRD6:=Lib.hid (HRD5.out.keep (Below.heap_setCell w5 ⟨w.heap.size,3,none⟩ (.string (bsOf fd)) rb hne))
 have HL6:=Lib.hid (HL5.out.grown (grown_set w5 ⟨w.heap.size,3,none⟩ (.string (bsOf fd))) (fun b hb => by injection hb with hb; have:w.heap.size=b:=hb; omega))
 clear hg5 hrd5 hblk5 hl5
 go_wp2_with fail
 refine (t_quote rb s r2 _ HRD6.out hs HL6.out).mono ?_
 rw [HX1.out]
 rintro e w7 ⟨hg7,rfl,hrd7⟩
 have hblk7:=Blk.grown' HBK6.out hg7 hne'
 have HG7:=Lib.hid (HG6.out.trans hg7)
 have hl7:ParOk w7:=HL6.out.grown hg7 (fun b hb => by injection hb with hb; omega)
 have HL7:=Lib.hid hl7
 have HRD7:=Lib.hid hrd7
 have c7:=(hblk7.cell 4).trans (show _=some (Value.string ⟨#[]⟩) from rfl)
 have f7:=hblk7.frozen 4
 have HBK8:=Lib.hid (show Blk (w7.setCell ⟨w.heap.size,4,none⟩ (.string ((bsOf tx).extract 1 ((bsOf tx).size - 1)))) w.heap.size 169 (tz 7 0 0 (bsOf fd) (bsOf ((tx.drop 1).take (tx.length - 2))) (.slice none 0 0)) from (by rw [← HEX.out]; exact hblk7.set_ 4 _))
 have HG8:=Lib.hid (grown_new HG7.out w.heap.size 4 (Nat.le_refl _) (.string ((bsOf tx).extract 1 ((bsOf tx).size - 1))))
 have HRD8:=Lib.hid (HRD7.out.keep (Below.heap_setCell w7 ⟨w.heap.size,4,none⟩ (.string ((bsOf tx).extract 1 ((bsOf tx).size - 1))) rb hne))
 have HL8:=Lib.hid (HL7.out.grown (grown_set w7 ⟨w.heap.size,4,none⟩ (.string ((bsOf tx).extract 1 ((bsOf tx).size - 1)))) (fun b hb => by injection hb with hb; have:w.heap.size=b:=hb; omega))
 clear hg7 hrd7 hblk7 hl7
 go_wp2_with fail
 refine (f_exactly rb ofB s r3 _ HRD8.out hs HL8.out).mono ?_
 rw [HX2.out]
 rintro e w9 ⟨hg9,rfl⟩
 go_wp2_with fail
 exact ⟨rfl,HG8.out.trans hg9,rfl⟩
set_option maxRecDepth 100000 in
set_option maxHeartbeats 2000000 in
theorem f_cond_7d (rb f : Nat) (s : ByteArray) (r : List UInt8) (w : World) (hr : Rd w rb s r) (h6 : 7 < rb) (hs : s.size ≤ 100000) (hl : ParOk w) (wd r1 : List UInt8) (ht : takeB kdP r = some (wd,r1)) (hk : kindB wd = 7) (fd r2 : List UInt8) (hx0 : takeB nameB r1 = some (fd,r2)) (tx r3 : List UInt8) (hx1 : takeB (fun x => x.headD 0 == 34) r2 = some (tx,r3)) (o r4 : List UInt8) (hx2 : takeB (· == ofB) r3 = some (o,r4)) (hx3 : numF r4 = none) : Calls Tryz.prog 129 #[.pointer (some ⟨rb,0,none⟩)] w (CondPost w rb s (f + 1) (.bad r4)) := by
 have HK:=Lib.hid hk
 clear hk
 have htx:=take_sp (a:=[]) hx1
 have ht2:2 ≤ tx.length:=by
  have h3:=htx.2.2.1
  have h4:tx.headD 0=34:=by simpa using h3
  rw [htx.2.1] at h4 ⊢
  exact quote_len htx.1 h4
 have htl:tx.length ≤ 100000:=by
  have h5:=word_len r2
  have h6':=take_len hx0
  have h7:=take_len ht
  have h8:=hr.pos.2.2.2
  rw [← htx.2.1] at h5; omega
 have hsz:=bsOf_data' tx
 have qs2:2 ≤ (bsOf tx).size:=by omega
 have qs3:(bsOf tx).size ≤ 100000:=by omega
 have hex:(bsOf tx).extract 1 ((bsOf tx).size - 1)=bsOf ((tx.drop 1).take (tx.length - 2)):=by
  rw [extract_drop,blOf_bsOf,hsz,Nat.sub_sub]
 have HEX:=Lib.hid hex
 clear htx ht2 htl hsz hex
 have HX0:=Lib.hid hx0
 clear hx0
 have HX1:=Lib.hid hx1
 clear hx1
 have HX2:=Lib.hid hx2
 clear hx2
 have HX3:=Lib.hid hx3
 clear hx3
 have hrl:=hr.lt
 have hb1:Below w.heap.size w (w.alloc (.cells zeroT 169)):=(Below.refl _ _).alloc (Nat.le_refl _) _
 have H1:=Lib.hid (t_kind rb s r _ (hr.below hb1) hs (hl.later hb1))
 have hne:rb ≠ w.heap.size:=by omega
 have HG1:=Lib.hid (only_of_below hb1 (some rb))
 have HL1:=Lib.hid (hl.later hb1)
 have HBK1:=Lib.hid (blk_start w)
 have HT:=Lib.hid ht
 clear hr hl hb1 ht
 go_enter Tryz.func129,Tryz.ntmps129
 go_wp2_with fail
 refine H1.out.mono ?_
 rw [HT.out]
 rintro e w2 ⟨hg2,rfl,hrd2⟩
 have hne':some w.heap.size ≠ some rb:=fun e => by injection e with e; omega
 have hblk2:=Blk.grown' HBK1.out hg2 hne'
 have hl2:ParOk w2:=HL1.out.grown hg2 (fun b hb => by injection hb with hb; omega)
 have HRD2:=Lib.hid hrd2
 have HG2:=Lib.hid (HG1.out.trans hg2)
 have HBK2:=Lib.hid hblk2
 have HL2:=Lib.hid hl2
 have hs2:=hg2.size
 have hsz2:w.heap.size < w2.heap.size:=hblk2.lt
 clear hg2 hrd2 hblk2 hl2
 go_wp2_with fail
 refine (f_kindOf (bsOf wd) _).mono ?_
 rw [blOf_bsOf,HK.out]
 rintro e w3 ⟨rfl,hb3⟩
 have hblk3:=HBK2.out.below' hb3 hsz2
 have k0:=(hblk3.cell 0).trans (show _=some (Value.int .i64 0) from rfl)
 have f0:=hblk3.frozen 0
 have HRD3:=Lib.hid (HRD2.out.below hb3)
 have HG3:=Lib.hid (HG2.out.trans (only_of_below hb3 (some rb)))
 have HL3:=Lib.hid (HL2.out.later hb3)
 have HBK4:=Lib.hid (show Blk (w3.setCell ⟨w.heap.size,0,none⟩ (.int .i64 7)) w.heap.size 169 (tz 7 0 0 ⟨#[]⟩ ⟨#[]⟩ (.slice none 0 0)) from hblk3.set_ 0 _)
 have k4:=(HBK4.out.cell 0).trans (show _=some (Value.int .i64 7) from rfl)
 have HG4:=Lib.hid (grown_new HG3.out w.heap.size 0 (Nat.le_refl _) (.int .i64 7))
 have HRD4:=Lib.hid (HRD3.out.keep (Below.heap_setCell w3 ⟨w.heap.size,0,none⟩ (.int .i64 7) rb hne))
 have HL4:=Lib.hid (HL3.out.grown (grown_set w3 ⟨w.heap.size,0,none⟩ (.int .i64 7)) (fun b hb => by injection hb with hb; have:w.heap.size=b:=hb; omega))
 clear hb3 hblk3
 go_wp2_with fail
 refine (t_name rb s r1 _ HRD4.out hs HL4.out).mono ?_
 rw [HX0.out]
 rintro e w5 ⟨hg5,rfl,hrd5⟩
 have hblk5:=Blk.grown' HBK4.out hg5 hne'
 have HG5:=Lib.hid (HG4.out.trans hg5)
 have hl5:ParOk w5:=HL4.out.grown hg5 (fun b hb => by injection hb with hb; omega)
 have HL5:=Lib.hid hl5
 have HRD5:=Lib.hid hrd5
 have c5:=(hblk5.cell 3).trans (show _=some (Value.string ⟨#[]⟩) from rfl)
 have f5:=hblk5.frozen 3
 have HBK6:=Lib.hid (show Blk (w5.setCell ⟨w.heap.size,3,none⟩ (.string (bsOf fd))) w.heap.size 169 (tz 7 0 0 (bsOf fd) ⟨#[]⟩ (.slice none 0 0)) from hblk5.set_ 3 _)
 have HG6:=Lib.hid (grown_new HG5.out w.heap.size 3 (Nat.le_refl _) (.string (bsOf fd)))
 have HRD6:=Lib.hid (HRD5.out.keep (Below.heap_setCell w5 ⟨w.heap.size,3,none⟩ (.string (bsOf fd)) rb hne))
 have HL6:=Lib.hid (HL5.out.grown (grown_set w5 ⟨w.heap.size,3,none⟩ (.string (bsOf fd))) (fun b hb => by injection hb with hb; have:w.heap.size=b:=hb; omega))
 clear hg5 hrd5 hblk5 hl5
 go_wp2_with fail
 refine (t_quote rb s r2 _ HRD6.out hs HL6.out).mono ?_
 rw [HX1.out]
 rintro e w7 ⟨hg7,rfl,hrd7⟩
 have hblk7:=Blk.grown' HBK6.out hg7 hne'
 have HG7:=Lib.hid (HG6.out.trans hg7)
 have hl7:ParOk w7:=HL6.out.grown hg7 (fun b hb => by injection hb with hb; omega)
 have HL7:=Lib.hid hl7
 have HRD7:=Lib.hid hrd7
 have c7:=(hblk7.cell 4).trans (show _=some (Value.string ⟨#[]⟩) from rfl)
 have f7:=hblk7.frozen 4
 have HBK8:=Lib.hid (show Blk (w7.setCell ⟨w.heap.size,4,none⟩ (.string ((bsOf tx).extract 1 ((bsOf tx).size - 1)))) w.heap.size 169 (tz 7 0 0 (bsOf fd) (bsOf ((tx.drop 1).take (tx.length - 2))) (.slice none 0 0)) from (by rw [← HEX.out]; exact hblk7.set_ 4 _))
 have HG8:=Lib.hid (grown_new HG7.out w.heap.size 4 (Nat.le_refl _) (.string ((bsOf tx).extract 1 ((bsOf tx).size - 1))))
 have HRD8:=Lib.hid (HRD7.out.keep (Below.heap_setCell w7 ⟨w.heap.size,4,none⟩ (.string ((bsOf tx).extract 1 ((bsOf tx).size - 1))) rb hne))
 have HL8:=Lib.hid (HL7.out.grown (grown_set w7 ⟨w.heap.size,4,none⟩ (.string ((bsOf tx).extract 1 ((bsOf tx).size - 1)))) (fun b hb => by injection hb with hb; have:w.heap.size=b:=hb; omega))
 clear hg7 hrd7 hblk7 hl7
 go_wp2_with fail
 refine (f_exactly rb ofB s r3 _ HRD8.out hs HL8.out).mono ?_
 rw [HX2.out]
 rintro e w9 ⟨hg9,rfl,hrd9⟩
 have hblk9:=Blk.grown' HBK8.out hg9 hne'
 have HG9:=Lib.hid (HG8.out.trans hg9)
 have hl9:ParOk w9:=HL8.out.grown hg9 (fun b hb => by injection hb with hb; omega)
 have HL9:=Lib.hid hl9
 have HRD9:=Lib.hid hrd9
 have HBK9:=Lib.hid hblk9
 clear hg9 hrd9 hblk9 hl9
 go_wp2_with fail
 refine (f_number rb s r4 _ HRD9.out h6 hs HL9.out).mono ?_
 rw [HX3.out]
 rintro e w10 ⟨hg10,rfl⟩
 go_wp2_with fail
 exact ⟨rfl,HG9.out.trans hg10,rfl⟩
set_option maxRecDepth 100000 in
set_option maxHeartbeats 2000000 in
theorem f_cond_7 (rb f : Nat) (s : ByteArray) (r : List UInt8) (w : World) (hr : Rd w rb s r) (h6 : 7 < rb) (hs : s.size ≤ 100000) (hl : ParOk w) (wd r1 : List UInt8) (ht : takeB kdP r = some (wd,r1)) (hk : kindB wd = 7) (fd r2 : List UInt8) (hx0 : takeB nameB r1 = some (fd,r2)) (tx r3 : List UInt8) (hx1 : takeB (fun x => x.headD 0 == 34) r2 = some (tx,r3)) (o r4 : List UInt8) (hx2 : takeB (· == ofB) r3 = some (o,r4)) (n : Int) (r5 : List UInt8) (hx3 : numF r4 = some (n,r5)) : Calls Tryz.prog 129 #[.pointer (some ⟨rb,0,none⟩)] w (CondPost w rb s (f + 1) (.ok [.node (mkT 7 n 0 (bsOf fd) (bsOf ((tx.drop 1).take (tx.length - 2)))) []] r5)) := by
 have HK:=Lib.hid hk
 clear hk
 have htx:=take_sp (a:=[]) hx1
 have ht2:2 ≤ tx.length:=by
  have h3:=htx.2.2.1
  have h4:tx.headD 0=34:=by simpa using h3
  rw [htx.2.1] at h4 ⊢
  exact quote_len htx.1 h4
 have htl:tx.length ≤ 100000:=by
  have h5:=word_len r2
  have h6':=take_len hx0
  have h7:=take_len ht
  have h8:=hr.pos.2.2.2
  rw [← htx.2.1] at h5; omega
 have hsz:=bsOf_data' tx
 have qs2:2 ≤ (bsOf tx).size:=by omega
 have qs3:(bsOf tx).size ≤ 100000:=by omega
 have hex:(bsOf tx).extract 1 ((bsOf tx).size - 1)=bsOf ((tx.drop 1).take (tx.length - 2)):=by
  rw [extract_drop,blOf_bsOf,hsz,Nat.sub_sub]
 have HEX:=Lib.hid hex
 clear htx ht2 htl hsz hex
 have HX0:=Lib.hid hx0
 clear hx0
 have HX1:=Lib.hid hx1
 clear hx1
 have HX2:=Lib.hid hx2
 clear hx2
 have HX3:=Lib.hid hx3
 clear hx3
 have hrl:=hr.lt
 have hb1:Below w.heap.size w (w.alloc (.cells zeroT 169)):=(Below.refl _ _).alloc (Nat.le_refl _) _
 have H1:=Lib.hid (t_kind rb s r _ (hr.below hb1) hs (hl.later hb1))
 have hne:rb ≠ w.heap.size:=by omega
 have HG1:=Lib.hid (only_of_below hb1 (some rb))
 have HL1:=Lib.hid (hl.later hb1)
 have HBK1:=Lib.hid (blk_start w)
 have HT:=Lib.hid ht
 clear hr hl hb1 ht
 go_enter Tryz.func129,Tryz.ntmps129
 go_wp2_with fail
 refine H1.out.mono ?_
 rw [HT.out]
 rintro e w2 ⟨hg2,rfl,hrd2⟩
 have hne':some w.heap.size ≠ some rb:=fun e => by injection e with e; omega
 have hblk2:=Blk.grown' HBK1.out hg2 hne'
 have hl2:ParOk w2:=HL1.out.grown hg2 (fun b hb => by injection hb with hb; omega)
 have HRD2:=Lib.hid hrd2
 have HG2:=Lib.hid (HG1.out.trans hg2)
 have HBK2:=Lib.hid hblk2
 have HL2:=Lib.hid hl2
 have hs2:=hg2.size
 have hsz2:w.heap.size < w2.heap.size:=hblk2.lt
 clear hg2 hrd2 hblk2 hl2
 go_wp2_with fail
 refine (f_kindOf (bsOf wd) _).mono ?_
 rw [blOf_bsOf,HK.out]
 rintro e w3 ⟨rfl,hb3⟩
 have hblk3:=HBK2.out.below' hb3 hsz2
 have k0:=(hblk3.cell 0).trans (show _=some (Value.int .i64 0) from rfl)
 have f0:=hblk3.frozen 0
 have HRD3:=Lib.hid (HRD2.out.below hb3)
 have HG3:=Lib.hid (HG2.out.trans (only_of_below hb3 (some rb)))
 have HL3:=Lib.hid (HL2.out.later hb3)
 have HBK4:=Lib.hid (show Blk (w3.setCell ⟨w.heap.size,0,none⟩ (.int .i64 7)) w.heap.size 169 (tz 7 0 0 ⟨#[]⟩ ⟨#[]⟩ (.slice none 0 0)) from hblk3.set_ 0 _)
 have k4:=(HBK4.out.cell 0).trans (show _=some (Value.int .i64 7) from rfl)
 have HG4:=Lib.hid (grown_new HG3.out w.heap.size 0 (Nat.le_refl _) (.int .i64 7))
 have HRD4:=Lib.hid (HRD3.out.keep (Below.heap_setCell w3 ⟨w.heap.size,0,none⟩ (.int .i64 7) rb hne))
 have HL4:=Lib.hid (HL3.out.grown (grown_set w3 ⟨w.heap.size,0,none⟩ (.int .i64 7)) (fun b hb => by injection hb with hb; have:w.heap.size=b:=hb; omega))
 clear hb3 hblk3
 go_wp2_with fail
 refine (t_name rb s r1 _ HRD4.out hs HL4.out).mono ?_
 rw [HX0.out]
 rintro e w5 ⟨hg5,rfl,hrd5⟩
 have hblk5:=Blk.grown' HBK4.out hg5 hne'
 have HG5:=Lib.hid (HG4.out.trans hg5)
 have hl5:ParOk w5:=HL4.out.grown hg5 (fun b hb => by injection hb with hb; omega)
 have HL5:=Lib.hid hl5
 have HRD5:=Lib.hid hrd5
 have c5:=(hblk5.cell 3).trans (show _=some (Value.string ⟨#[]⟩) from rfl)
 have f5:=hblk5.frozen 3
 have HBK6:=Lib.hid (show Blk (w5.setCell ⟨w.heap.size,3,none⟩ (.string (bsOf fd))) w.heap.size 169 (tz 7 0 0 (bsOf fd) ⟨#[]⟩ (.slice none 0 0)) from hblk5.set_ 3 _)
 have HG6:=Lib.hid (grown_new HG5.out w.heap.size 3 (Nat.le_refl _) (.string (bsOf fd)))
 have HRD6:=Lib.hid (HRD5.out.keep (Below.heap_setCell w5 ⟨w.heap.size,3,none⟩ (.string (bsOf fd)) rb hne))
 have HL6:=Lib.hid (HL5.out.grown (grown_set w5 ⟨w.heap.size,3,none⟩ (.string (bsOf fd))) (fun b hb => by injection hb with hb; have:w.heap.size=b:=hb; omega))
 clear hg5 hrd5 hblk5 hl5
 go_wp2_with fail
 refine (t_quote rb s r2 _ HRD6.out hs HL6.out).mono ?_
 rw [HX1.out]
 rintro e w7 ⟨hg7,rfl,hrd7⟩
 have hblk7:=Blk.grown' HBK6.out hg7 hne'
 have HG7:=Lib.hid (HG6.out.trans hg7)
 have hl7:ParOk w7:=HL6.out.grown hg7 (fun b hb => by injection hb with hb; omega)
 have HL7:=Lib.hid hl7
 have HRD7:=Lib.hid hrd7
 have c7:=(hblk7.cell 4).trans (show _=some (Value.string ⟨#[]⟩) from rfl)
 have f7:=hblk7.frozen 4
 have HBK8:=Lib.hid (show Blk (w7.setCell ⟨w.heap.size,4,none⟩ (.string ((bsOf tx).extract 1 ((bsOf tx).size - 1)))) w.heap.size 169 (tz 7 0 0 (bsOf fd) (bsOf ((tx.drop 1).take (tx.length - 2))) (.slice none 0 0)) from (by rw [← HEX.out]; exact hblk7.set_ 4 _))
 have HG8:=Lib.hid (grown_new HG7.out w.heap.size 4 (Nat.le_refl _) (.string ((bsOf tx).extract 1 ((bsOf tx).size - 1))))
 have HRD8:=Lib.hid (HRD7.out.keep (Below.heap_setCell w7 ⟨w.heap.size,4,none⟩ (.string ((bsOf tx).extract 1 ((bsOf tx).size - 1))) rb hne))
 have HL8:=Lib.hid (HL7.out.grown (grown_set w7 ⟨w.heap.size,4,none⟩ (.string ((bsOf tx).extract 1 ((bsOf tx).size - 1)))) (fun b hb => by injection hb with hb; have:w.heap.size=b:=hb; omega))
 clear hg7 hrd7 hblk7 hl7
 go_wp2_with fail
 refine (f_exactly rb ofB s r3 _ HRD8.out hs HL8.out).mono ?_
 rw [HX2.out]
 rintro e w9 ⟨hg9,rfl,hrd9⟩
 have hblk9:=Blk.grown' HBK8.out hg9 hne'
 have HG9:=Lib.hid (HG8.out.trans hg9)
 have hl9:ParOk w9:=HL8.out.grown hg9 (fun b hb => by injection hb with hb; omega)
 have HL9:=Lib.hid hl9
 have HRD9:=Lib.hid hrd9
 have HBK9:=Lib.hid hblk9
 clear hg9 hrd9 hblk9 hl9
 go_wp2_with fail
 refine (f_number rb s r4 _ HRD9.out h6 hs HL9.out).mono ?_
 rw [HX3.out]
 rintro e w10 ⟨hg10,rfl,hrd10⟩
 have hblk10:=Blk.grown' HBK9.out hg10 hne'
 have HG10:=Lib.hid (HG9.out.trans hg10)
 have hl10:ParOk w10:=HL9.out.grown hg10 (fun b hb => by injection hb with hb; omega)
 have HL10:=Lib.hid hl10
 have HRD10:=Lib.hid hrd10
 have c10:=(hblk10.cell 1).trans (show _=some (Value.int .i64 0) from rfl)
 have f10:=hblk10.frozen 1
 have HBK11:=Lib.hid (show Blk (w10.setCell ⟨w.heap.size,1,none⟩ (.int .i64 n)) w.heap.size 169 (tz 7 n 0 (bsOf fd) (bsOf ((tx.drop 1).take (tx.length - 2))) (.slice none 0 0)) from hblk10.set_ 1 _)
 have HG11:=Lib.hid (grown_new HG10.out w.heap.size 1 (Nat.le_refl _) (.int .i64 n))
 have HRD11:=Lib.hid (HRD10.out.keep (Below.heap_setCell w10 ⟨w.heap.size,1,none⟩ (.int .i64 n) rb hne))
 have HL11:=Lib.hid (HL10.out.grown (grown_set w10 ⟨w.heap.size,1,none⟩ (.int .i64 n)) (fun b hb => by injection hb with hb; have:w.heap.size=b:=hb; omega))
 clear hg10 hrd10 hblk10 hl10
 go_wp2_with fail
 go_ret
 exact ⟨HG11.out,_,rfl,HRD11.out,tz_leaf HBK11.out (Nat.le_refl _)⟩
set_option maxRecDepth 100000 in
set_option maxHeartbeats 2000000 in
theorem f_cond_5a (rb f : Nat) (s : ByteArray) (r : List UInt8) (w : World) (hr : Rd w rb s r) (h6 : 7 < rb) (hs : s.size ≤ 100000) (hl : ParOk w) (wd r1 : List UInt8) (ht : takeB kdP r = some (wd,r1)) (hk : kindB wd = 5) (hx0 : numF r1 = none) : Calls Tryz.prog 129 #[.pointer (some ⟨rb,0,none⟩)] w (CondPost w rb s (f + 1) (.bad r1)) := by
 have HK:=Lib.hid hk
 clear hk
 have HX0:=Lib.hid hx0
 clear hx0
 have hrl:=hr.lt
 have hb1:Below w.heap.size w (w.alloc (.cells zeroT 169)):=(Below.refl _ _).alloc (Nat.le_refl _) _
 have H1:=Lib.hid (t_kind rb s r _ (hr.below hb1) hs (hl.later hb1))
 have hne:rb ≠ w.heap.size:=by omega
 have HG1:=Lib.hid (only_of_below hb1 (some rb))
 have HL1:=Lib.hid (hl.later hb1)
 have HBK1:=Lib.hid (blk_start w)
 have HT:=Lib.hid ht
 clear hr hl hb1 ht
 go_enter Tryz.func129,Tryz.ntmps129
 go_wp2_with fail
 refine H1.out.mono ?_
 rw [HT.out]
 rintro e w2 ⟨hg2,rfl,hrd2⟩
 have hne':some w.heap.size ≠ some rb:=fun e => by injection e with e; omega
 have hblk2:=Blk.grown' HBK1.out hg2 hne'
 have hl2:ParOk w2:=HL1.out.grown hg2 (fun b hb => by injection hb with hb; omega)
 have HRD2:=Lib.hid hrd2
 have HG2:=Lib.hid (HG1.out.trans hg2)
 have HBK2:=Lib.hid hblk2
 have HL2:=Lib.hid hl2
 have hs2:=hg2.size
 have hsz2:w.heap.size < w2.heap.size:=hblk2.lt
 clear hg2 hrd2 hblk2 hl2
 go_wp2_with fail
 refine (f_kindOf (bsOf wd) _).mono ?_
 rw [blOf_bsOf,HK.out]
 rintro e w3 ⟨rfl,hb3⟩
 have hblk3:=HBK2.out.below' hb3 hsz2
 have k0:=(hblk3.cell 0).trans (show _=some (Value.int .i64 0) from rfl)
 have f0:=hblk3.frozen 0
 have HRD3:=Lib.hid (HRD2.out.below hb3)
 have HG3:=Lib.hid (HG2.out.trans (only_of_below hb3 (some rb)))
 have HL3:=Lib.hid (HL2.out.later hb3)
 have HBK4:=Lib.hid (show Blk (w3.setCell ⟨w.heap.size,0,none⟩ (.int .i64 5)) w.heap.size 169 (tz 5 0 0 ⟨#[]⟩ ⟨#[]⟩ (.slice none 0 0)) from hblk3.set_ 0 _)
 have k4:=(HBK4.out.cell 0).trans (show _=some (Value.int .i64 5) from rfl)
 have HG4:=Lib.hid (grown_new HG3.out w.heap.size 0 (Nat.le_refl _) (.int .i64 5))
 have HRD4:=Lib.hid (HRD3.out.keep (Below.heap_setCell w3 ⟨w.heap.size,0,none⟩ (.int .i64 5) rb hne))
 have HL4:=Lib.hid (HL3.out.grown (grown_set w3 ⟨w.heap.size,0,none⟩ (.int .i64 5)) (fun b hb => by injection hb with hb; have:w.heap.size=b:=hb; omega))
 clear hb3 hblk3
 go_wp2_with fail
 refine (f_number rb s r1 _ HRD4.out h6 hs HL4.out).mono ?_
 rw [HX0.out]
 rintro e w5 ⟨hg5,rfl⟩
 go_wp2_with fail
 exact ⟨rfl,HG4.out.trans hg5,rfl⟩
set_option maxRecDepth 100000 in
set_option maxHeartbeats 2000000 in
theorem f_cond_5b (rb f : Nat) (s : ByteArray) (r : List UInt8) (w : World) (hr : Rd w rb s r) (h6 : 7 < rb) (hs : s.size ≤ 100000) (hl : ParOk w) (wd r1 : List UInt8) (ht : takeB kdP r = some (wd,r1)) (hk : kindB wd = 5) (y : Int) (r2 : List UInt8) (hx0 : numF r1 = some (y,r2)) (hx1 : takeB (· == ofB) r2 = none) : Calls Tryz.prog 129 #[.pointer (some ⟨rb,0,none⟩)] w (CondPost w rb s (f + 1) (.bad r2)) := by
 have HK:=Lib.hid hk
 clear hk
 have HX0:=Lib.hid hx0
 clear hx0
 have HX1:=Lib.hid hx1
 clear hx1
 have hrl:=hr.lt
 have hb1:Below w.heap.size w (w.alloc (.cells zeroT 169)):=(Below.refl _ _).alloc (Nat.le_refl _) _
 have H1:=Lib.hid (t_kind rb s r _ (hr.below hb1) hs (hl.later hb1))
 have hne:rb ≠ w.heap.size:=by omega
 have HG1:=Lib.hid (only_of_below hb1 (some rb))
 have HL1:=Lib.hid (hl.later hb1)
 have HBK1:=Lib.hid (blk_start w)
 have HT:=Lib.hid ht
 clear hr hl hb1 ht
 go_enter Tryz.func129,Tryz.ntmps129
 go_wp2_with fail
 refine H1.out.mono ?_
 rw [HT.out]
 rintro e w2 ⟨hg2,rfl,hrd2⟩
 have hne':some w.heap.size ≠ some rb:=fun e => by injection e with e; omega
 have hblk2:=Blk.grown' HBK1.out hg2 hne'
 have hl2:ParOk w2:=HL1.out.grown hg2 (fun b hb => by injection hb with hb; omega)
 have HRD2:=Lib.hid hrd2
 have HG2:=Lib.hid (HG1.out.trans hg2)
 have HBK2:=Lib.hid hblk2
 have HL2:=Lib.hid hl2
 have hs2:=hg2.size
 have hsz2:w.heap.size < w2.heap.size:=hblk2.lt
 clear hg2 hrd2 hblk2 hl2
 go_wp2_with fail
 refine (f_kindOf (bsOf wd) _).mono ?_
 rw [blOf_bsOf,HK.out]
 rintro e w3 ⟨rfl,hb3⟩
 have hblk3:=HBK2.out.below' hb3 hsz2
 have k0:=(hblk3.cell 0).trans (show _=some (Value.int .i64 0) from rfl)
 have f0:=hblk3.frozen 0
 have HRD3:=Lib.hid (HRD2.out.below hb3)
 have HG3:=Lib.hid (HG2.out.trans (only_of_below hb3 (some rb)))
 have HL3:=Lib.hid (HL2.out.later hb3)
 have HBK4:=Lib.hid (show Blk (w3.setCell ⟨w.heap.size,0,none⟩ (.int .i64 5)) w.heap.size 169 (tz 5 0 0 ⟨#[]⟩ ⟨#[]⟩ (.slice none 0 0)) from hblk3.set_ 0 _)
 have k4:=(HBK4.out.cell 0).trans (show _=some (Value.int .i64 5) from rfl)
 have HG4:=Lib.hid (grown_new HG3.out w.heap.size 0 (Nat.le_refl _) (.int .i64 5))
 have HRD4:=Lib.hid (HRD3.out.keep (Below.heap_setCell w3 ⟨w.heap.size,0,none⟩ (.int .i64 5) rb hne))
 have HL4:=Lib.hid (HL3.out.grown (grown_set w3 ⟨w.heap.size,0,none⟩ (.int .i64 5)) (fun b hb => by injection hb with hb; have:w.heap.size=b:=hb; omega))
 clear hb3 hblk3
 go_wp2_with fail
 refine (f_number rb s r1 _ HRD4.out h6 hs HL4.out).mono ?_
 rw [HX0.out]
 rintro e w5 ⟨hg5,rfl,hrd5⟩
 have hblk5:=Blk.grown' HBK4.out hg5 hne'
 have HG5:=Lib.hid (HG4.out.trans hg5)
 have hl5:ParOk w5:=HL4.out.grown hg5 (fun b hb => by injection hb with hb; omega)
 have HL5:=Lib.hid hl5
 have HRD5:=Lib.hid hrd5
 have c5:=(hblk5.cell 2).trans (show _=some (Value.int .i64 0) from rfl)
 have f5:=hblk5.frozen 2
 have HBK6:=Lib.hid (show Blk (w5.setCell ⟨w.heap.size,2,none⟩ (.int .i64 y)) w.heap.size 169 (tz 5 0 y ⟨#[]⟩ ⟨#[]⟩ (.slice none 0 0)) from hblk5.set_ 2 _)
 have HG6:=Lib.hid (grown_new HG5.out w.heap.size 2 (Nat.le_refl _) (.int .i64 y))
 have HRD6:=Lib.hid (HRD5.out.keep (Below.heap_setCell w5 ⟨w.heap.size,2,none⟩ (.int .i64 y) rb hne))
 have HL6:=Lib.hid (HL5.out.grown (grown_set w5 ⟨w.heap.size,2,none⟩ (.int .i64 y)) (fun b hb => by injection hb with hb; have:w.heap.size=b:=hb; omega))
 clear hg5 hrd5 hblk5 hl5
 go_wp2_with fail
 refine (f_exactly rb ofB s r2 _ HRD6.out hs HL6.out).mono ?_
 rw [HX1.out]
 rintro e w7 ⟨hg7,rfl⟩
 go_wp2_with fail
 exact ⟨rfl,HG6.out.trans hg7,rfl⟩
set_option maxRecDepth 100000 in
set_option maxHeartbeats 2000000 in
theorem f_cond_5c (rb f : Nat) (s : ByteArray) (r : List UInt8) (w : World) (hr : Rd w rb s r) (h6 : 7 < rb) (hs : s.size ≤ 100000) (hl : ParOk w) (wd r1 : List UInt8) (ht : takeB kdP r = some (wd,r1)) (hk : kindB wd = 5) (y : Int) (r2 : List UInt8) (hx0 : numF r1 = some (y,r2)) (o r3 : List UInt8) (hx1 : takeB (· == ofB) r2 = some (o,r3)) (hx2 : numF r3 = none) : Calls Tryz.prog 129 #[.pointer (some ⟨rb,0,none⟩)] w (CondPost w rb s (f + 1) (.bad r3)) := by
 have HK:=Lib.hid hk
 clear hk
 have HX0:=Lib.hid hx0
 clear hx0
 have HX1:=Lib.hid hx1
 clear hx1
 have HX2:=Lib.hid hx2
 clear hx2
 have hrl:=hr.lt
 have hb1:Below w.heap.size w (w.alloc (.cells zeroT 169)):=(Below.refl _ _).alloc (Nat.le_refl _) _
 have H1:=Lib.hid (t_kind rb s r _ (hr.below hb1) hs (hl.later hb1))
 have hne:rb ≠ w.heap.size:=by omega
 have HG1:=Lib.hid (only_of_below hb1 (some rb))
 have HL1:=Lib.hid (hl.later hb1)
 have HBK1:=Lib.hid (blk_start w)
 have HT:=Lib.hid ht
 clear hr hl hb1 ht
 go_enter Tryz.func129,Tryz.ntmps129
 go_wp2_with fail
 refine H1.out.mono ?_
 rw [HT.out]
 rintro e w2 ⟨hg2,rfl,hrd2⟩
 have hne':some w.heap.size ≠ some rb:=fun e => by injection e with e; omega
 have hblk2:=Blk.grown' HBK1.out hg2 hne'
 have hl2:ParOk w2:=HL1.out.grown hg2 (fun b hb => by injection hb with hb; omega)
 have HRD2:=Lib.hid hrd2
 have HG2:=Lib.hid (HG1.out.trans hg2)
 have HBK2:=Lib.hid hblk2
 have HL2:=Lib.hid hl2
 have hs2:=hg2.size
 have hsz2:w.heap.size < w2.heap.size:=hblk2.lt
 clear hg2 hrd2 hblk2 hl2
 go_wp2_with fail
 refine (f_kindOf (bsOf wd) _).mono ?_
 rw [blOf_bsOf,HK.out]
 rintro e w3 ⟨rfl,hb3⟩
 have hblk3:=HBK2.out.below' hb3 hsz2
 have k0:=(hblk3.cell 0).trans (show _=some (Value.int .i64 0) from rfl)
 have f0:=hblk3.frozen 0
 have HRD3:=Lib.hid (HRD2.out.below hb3)
 have HG3:=Lib.hid (HG2.out.trans (only_of_below hb3 (some rb)))
 have HL3:=Lib.hid (HL2.out.later hb3)
 have HBK4:=Lib.hid (show Blk (w3.setCell ⟨w.heap.size,0,none⟩ (.int .i64 5)) w.heap.size 169 (tz 5 0 0 ⟨#[]⟩ ⟨#[]⟩ (.slice none 0 0)) from hblk3.set_ 0 _)
 have k4:=(HBK4.out.cell 0).trans (show _=some (Value.int .i64 5) from rfl)
 have HG4:=Lib.hid (grown_new HG3.out w.heap.size 0 (Nat.le_refl _) (.int .i64 5))
 have HRD4:=Lib.hid (HRD3.out.keep (Below.heap_setCell w3 ⟨w.heap.size,0,none⟩ (.int .i64 5) rb hne))
 have HL4:=Lib.hid (HL3.out.grown (grown_set w3 ⟨w.heap.size,0,none⟩ (.int .i64 5)) (fun b hb => by injection hb with hb; have:w.heap.size=b:=hb; omega))
 clear hb3 hblk3
 go_wp2_with fail
 refine (f_number rb s r1 _ HRD4.out h6 hs HL4.out).mono ?_
 rw [HX0.out]
 rintro e w5 ⟨hg5,rfl,hrd5⟩
 have hblk5:=Blk.grown' HBK4.out hg5 hne'
 have HG5:=Lib.hid (HG4.out.trans hg5)
 have hl5:ParOk w5:=HL4.out.grown hg5 (fun b hb => by injection hb with hb; omega)
 have HL5:=Lib.hid hl5
 have HRD5:=Lib.hid hrd5
 have c5:=(hblk5.cell 2).trans (show _=some (Value.int .i64 0) from rfl)
 have f5:=hblk5.frozen 2
 have HBK6:=Lib.hid (show Blk (w5.setCell ⟨w.heap.size,2,none⟩ (.int .i64 y)) w.heap.size 169 (tz 5 0 y ⟨#[]⟩ ⟨#[]⟩ (.slice none 0 0)) from hblk5.set_ 2 _)
 have HG6:=Lib.hid (grown_new HG5.out w.heap.size 2 (Nat.le_refl _) (.int .i64 y))
 have HRD6:=Lib.hid (HRD5.out.keep (Below.heap_setCell w5 ⟨w.heap.size,2,none⟩ (.int .i64 y) rb hne))
 have HL6:=Lib.hid (HL5.out.grown (grown_set w5 ⟨w.heap.size,2,none⟩ (.int .i64 y)) (fun b hb => by injection hb with hb; have:w.heap.size=b:=hb; omega))
 clear hg5 hrd5 hblk5 hl5
 go_wp2_with fail
 refine (f_exactly rb ofB s r2 _ HRD6.out hs HL6.out).mono ?_
 rw [HX1.out]
 rintro e w7 ⟨hg7,rfl,hrd7⟩
 have hblk7:=Blk.grown' HBK6.out hg7 hne'
 have HG7:=Lib.hid (HG6.out.trans hg7)
 have hl7:ParOk w7:=HL6.out.grown hg7 (fun b hb => by injection hb with hb; omega)
 have HL7:=Lib.hid hl7
 have HRD7:=Lib.hid hrd7
 have HBK7:=Lib.hid hblk7
 clear hg7 hrd7 hblk7 hl7
 go_wp2_with fail
 refine (f_number rb s r3 _ HRD7.out h6 hs HL7.out).mono ?_
 rw [HX2.out]
 rintro e w8 ⟨hg8,rfl⟩
 go_wp2_with fail
 exact ⟨rfl,HG7.out.trans hg8,rfl⟩
set_option maxRecDepth 100000 in
set_option maxHeartbeats 2000000 in
theorem f_cond_5 (rb f : Nat) (s : ByteArray) (r : List UInt8) (w : World) (hr : Rd w rb s r) (h6 : 7 < rb) (hs : s.size ≤ 100000) (hl : ParOk w) (wd r1 : List UInt8) (ht : takeB kdP r = some (wd,r1)) (hk : kindB wd = 5) (y : Int) (r2 : List UInt8) (hx0 : numF r1 = some (y,r2)) (o r3 : List UInt8) (hx1 : takeB (· == ofB) r2 = some (o,r3)) (n : Int) (r4 : List UInt8) (hx2 : numF r3 = some (n,r4)) : Calls Tryz.prog 129 #[.pointer (some ⟨rb,0,none⟩)] w (CondPost w rb s (f + 1) (.ok [.node (mkT 5 n y ⟨#[]⟩ ⟨#[]⟩) []] r4)) := by
 have HK:=Lib.hid hk
 clear hk
 have HX0:=Lib.hid hx0
 clear hx0
 have HX1:=Lib.hid hx1
 clear hx1
 have HX2:=Lib.hid hx2
 clear hx2
 have hrl:=hr.lt
 have hb1:Below w.heap.size w (w.alloc (.cells zeroT 169)):=(Below.refl _ _).alloc (Nat.le_refl _) _
 have H1:=Lib.hid (t_kind rb s r _ (hr.below hb1) hs (hl.later hb1))
 have hne:rb ≠ w.heap.size:=by omega
 have HG1:=Lib.hid (only_of_below hb1 (some rb))
 have HL1:=Lib.hid (hl.later hb1)
 have HBK1:=Lib.hid (blk_start w)
 have HT:=Lib.hid ht
 clear hr hl hb1 ht
 go_enter Tryz.func129,Tryz.ntmps129
 go_wp2_with fail
 refine H1.out.mono ?_
 rw [HT.out]
 rintro e w2 ⟨hg2,rfl,hrd2⟩
 have hne':some w.heap.size ≠ some rb:=fun e => by injection e with e; omega
 have hblk2:=Blk.grown' HBK1.out hg2 hne'
 have hl2:ParOk w2:=HL1.out.grown hg2 (fun b hb => by injection hb with hb; omega)
 have HRD2:=Lib.hid hrd2
 have HG2:=Lib.hid (HG1.out.trans hg2)
 have HBK2:=Lib.hid hblk2
 have HL2:=Lib.hid hl2
 have hs2:=hg2.size
 have hsz2:w.heap.size < w2.heap.size:=hblk2.lt
 clear hg2 hrd2 hblk2 hl2
 go_wp2_with fail
 refine (f_kindOf (bsOf wd) _).mono ?_
 rw [blOf_bsOf,HK.out]
 rintro e w3 ⟨rfl,hb3⟩
 have hblk3:=HBK2.out.below' hb3 hsz2
 have k0:=(hblk3.cell 0).trans (show _=some (Value.int .i64 0) from rfl)
 have f0:=hblk3.frozen 0
 have HRD3:=Lib.hid (HRD2.out.below hb3)
 have HG3:=Lib.hid (HG2.out.trans (only_of_below hb3 (some rb)))
 have HL3:=Lib.hid (HL2.out.later hb3)
 have HBK4:=Lib.hid (show Blk (w3.setCell ⟨w.heap.size,0,none⟩ (.int .i64 5)) w.heap.size 169 (tz 5 0 0 ⟨#[]⟩ ⟨#[]⟩ (.slice none 0 0)) from hblk3.set_ 0 _)
 have k4:=(HBK4.out.cell 0).trans (show _=some (Value.int .i64 5) from rfl)
 have HG4:=Lib.hid (grown_new HG3.out w.heap.size 0 (Nat.le_refl _) (.int .i64 5))
 have HRD4:=Lib.hid (HRD3.out.keep (Below.heap_setCell w3 ⟨w.heap.size,0,none⟩ (.int .i64 5) rb hne))
 have HL4:=Lib.hid (HL3.out.grown (grown_set w3 ⟨w.heap.size,0,none⟩ (.int .i64 5)) (fun b hb => by injection hb with hb; have:w.heap.size=b:=hb; omega))
 clear hb3 hblk3
 go_wp2_with fail
 refine (f_number rb s r1 _ HRD4.out h6 hs HL4.out).mono ?_
 rw [HX0.out]
 rintro e w5 ⟨hg5,rfl,hrd5⟩
 have hblk5:=Blk.grown' HBK4.out hg5 hne'
 have HG5:=Lib.hid (HG4.out.trans hg5)
 have hl5:ParOk w5:=HL4.out.grown hg5 (fun b hb => by injection hb with hb; omega)
 have HL5:=Lib.hid hl5
 have HRD5:=Lib.hid hrd5
 have c5:=(hblk5.cell 2).trans (show _=some (Value.int .i64 0) from rfl)
 have f5:=hblk5.frozen 2
 have HBK6:=Lib.hid (show Blk (w5.setCell ⟨w.heap.size,2,none⟩ (.int .i64 y)) w.heap.size 169 (tz 5 0 y ⟨#[]⟩ ⟨#[]⟩ (.slice none 0 0)) from hblk5.set_ 2 _)
 have HG6:=Lib.hid (grown_new HG5.out w.heap.size 2 (Nat.le_refl _) (.int .i64 y))
 have HRD6:=Lib.hid (HRD5.out.keep (Below.heap_setCell w5 ⟨w.heap.size,2,none⟩ (.int .i64 y) rb hne))
 have HL6:=Lib.hid (HL5.out.grown (grown_set w5 ⟨w.heap.size,2,none⟩ (.int .i64 y)) (fun b hb => by injection hb with hb; have:w.heap.size=b:=hb; omega))
 clear hg5 hrd5 hblk5 hl5
 go_wp2_with fail
 refine (f_exactly rb ofB s r2 _ HRD6.out hs HL6.out).mono ?_
 rw [HX1.out]
 rintro e w7 ⟨hg7,rfl,hrd7⟩
 have hblk7:=Blk.grown' HBK6.out hg7 hne'
 have HG7:=Lib.hid (HG6.out.trans hg7)
 have hl7:ParOk w7:=HL6.out.grown hg7 (fun b hb => by injection hb with hb; omega)
 have HL7:=Lib.hid hl7
 have HRD7:=Lib.hid hrd7
 have HBK7:=Lib.hid hblk7
 clear hg7 hrd7 hblk7 hl7
 go_wp2_with fail
 refine (f_number rb s r3 _ HRD7.out h6 hs HL7.out).mono ?_
 rw [HX2.out]
 rintro e w8 ⟨hg8,rfl,hrd8⟩
 have hblk8:=Blk.grown' HBK7.out hg8 hne'
 have HG8:=Lib.hid (HG7.out.trans hg8)
 have hl8:ParOk w8:=HL7.out.grown hg8 (fun b hb => by injection hb with hb; omega)
 have HL8:=Lib.hid hl8
 have HRD8:=Lib.hid hrd8
 have c8:=(hblk8.cell 1).trans (show _=some (Value.int .i64 0) from rfl)
 have f8:=hblk8.frozen 1
 have HBK9:=Lib.hid (show Blk (w8.setCell ⟨w.heap.size,1,none⟩ (.int .i64 n)) w.heap.size 169 (tz 5 n y ⟨#[]⟩ ⟨#[]⟩ (.slice none 0 0)) from hblk8.set_ 1 _)
 have HG9:=Lib.hid (grown_new HG8.out w.heap.size 1 (Nat.le_refl _) (.int .i64 n))
 have HRD9:=Lib.hid (HRD8.out.keep (Below.heap_setCell w8 ⟨w.heap.size,1,none⟩ (.int .i64 n) rb hne))
 have HL9:=Lib.hid (HL8.out.grown (grown_set w8 ⟨w.heap.size,1,none⟩ (.int .i64 n)) (fun b hb => by injection hb with hb; have:w.heap.size=b:=hb; omega))
 clear hg8 hrd8 hblk8 hl8
 go_wp2_with fail
 go_ret
 exact ⟨HG9.out,_,rfl,HRD9.out,tz_leaf HBK9.out (Nat.le_refl _)⟩
end Go.Proofs.YtgdngfdeeadlnaaGreatDoor
