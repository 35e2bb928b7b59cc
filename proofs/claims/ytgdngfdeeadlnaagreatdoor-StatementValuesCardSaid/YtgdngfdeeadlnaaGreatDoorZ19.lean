/- Words for memory: parts of a condition that are collected while a text is read. And more. -/
import Derived.Test.YtgdngfdeeadlnaaGreatDoorZ18
import Derived.Test.YtgdngfdeeadlnaaGreatDoorZ02
set_option linter.unusedVariables false
set_option linter.unusedSimpArgs false
namespace Go.Proofs.YtgdngfdeeadlnaaGreatDoor
open Go.RowKit Num
def ArS (w W : World) (u : Value) (c : Nat) : Prop := w.heap.size ≤ c ∧ c < W.heap.size ∧ u.ownBlock ≠ some c
structure ArgK (w W : World) (rb d : Nat) (xs : List Tree) (u : Value) (ps : List Value) : Prop where
  lt : rb < w.heap.size
  gr : w.grownBy W (some rb)
  own : W.ownsRow w.heap.size 138 1 u xs.length ps
  kids : KidZ W (ArS w W u) d ps xs
theorem own_mono {w : World} {B B' : Nat} {e : TypeId} {s n : Nat} {v : Value} {xs : List Value} (h : w.ownsRow B e s v n xs) (hB : B' ≤ B) : w.ownsRow B' e s v n xs := by
 refine ⟨h.1,?_⟩
 rcases h.2 with h1 | ⟨g,cap,cur,h1,h2,h3⟩
 ·exact .inl h1
 ·exact .inr ⟨g,cap,cur,h1,by omega,h3⟩
section
variable {w W W0 W1 W2 : World} {rb d f : Nat} {xs : List Tree} {u u' p : Value} {ps : List Value} {x : Tree}
theorem ArgK.own_lt (h : ArgK w W rb d xs u ps) : ∀ g,u.ownBlock = some g → w.heap.size ≤ g ∧ g < W.heap.size := h.own.lt
theorem ArgK.call (h : ArgK w W rb d xs u ps) (hg : W.grownBy W1 (some rb)) : ArgK w W1 rb d xs u ps := by
 have hlt:=h.lt
 refine ⟨h.lt,h.gr.trans hg,h.own.kept hg ?_,h.kids.keep (fun b hS => hg.block b hS.2.1 (fun e => ?_)) (fun b hS => ⟨hS.1,Nat.lt_of_lt_of_le hS.2.1 hg.size,hS.2.2⟩)⟩
 ·right; intro e; have:=(h.own_lt _ e).1; omega
 ·injection e with e; have:=hS.1; omega
theorem ArgK.one (hlt : rb < w.heap.size) (hg : w.grownBy W1 (some rb)) (hp : p.oneCell' = true) (hx : TreeZ W1 (fun c => w.heap.size ≤ c ∧ c < W1.heap.size) f p x) (hf : f ≤ d) :
  ArgK w (W1.alloc (.cells #[p] 138)) rb d [x] (.slice (some ⟨W1.heap.size,0,none⟩) 1 1) [p]:=by
 have hsz:=hg.size
 have ha:W1.grownBy (W1.alloc (.cells #[p] 138)) (some rb):=only_of_below ((Below.refl _ _).alloc (Nat.le_refl _) _) _
 refine ⟨hlt,hg.trans ha,?_,fun i t hi => ?_⟩
 ·exact World.ownsRow_lit W1 #[p] 1 hsz (by simp [maxLen]) rfl
 ·match i,hi with
  | 0,hi =>
   simp at hi; subst hi
   refine ⟨p,rfl,((hx.deeper hf).keep (fun b hb => Below.heap_alloc W1 _ b hb.2)).mono fun b hb => ⟨hb.1,by simp; omega,?_⟩⟩
   intro e
   have:W1.heap.size=b:=by injection e
   omega
theorem ArgK.append (h : ArgK w W1 rb d xs u ps) {s : Nat} (hus : ∀ g,u.ownBlock = some g → g < s) (hs : w.heap.size ≤ s) (hx : TreeZ W1 (fun c => s ≤ c ∧ c < W1.heap.size) f p x) (hf : f ≤ d) {o : Obj}
  (hown:W2.ownsRow w.heap.size 138 1 u' (xs.length+1) (ps ++ [p])) (hg:(W1.alloc o).grownBy W2 u.ownBlock) (hw:u'.ownBlock=u.ownBlock ∨ u'.ownBlock=some (W1.heap.size+1)) :
  ArgK w W2 rb d (xs ++ [x]) u' (ps ++ [p]):=by
 have hlt:=h.lt
 have hbl:=h.own_lt
 have hsz1:(W1.alloc o).heap.size=W1.heap.size+1:=by simp
 have hsz:W1.heap.size+1 ≤ W2.heap.size:=by rw [← hsz1]; exact hg.size
 have hgs:=h.gr.size
 have key:∀ c,c < W1.heap.size → u.ownBlock ≠ some c → W2.heap[c]?=W1.heap[c]?:=fun c hc hn =>
  (hg.block c (by omega) (fun e => hn e.symm)).trans (Below.heap_alloc W1 o c hc)
 have hnew:u'.ownBlock=u.ownBlock ∨ u'.ownBlock=some (W1.heap.size+1):=hw
 refine ⟨h.lt,?_,by simpa using hown,KidZ.snoc (h.kids.keep (fun b hS => key b hS.2.1 hS.2.2) (fun b hS => ⟨hS.1,by have:=hS.2.1; omega,?_⟩)) (by have:=h.own.1; omega) ((((hx.deeper hf).keep (fun b hb => key b hb.2 (fun e => by have:=hus b e; have:=hb.1; omega))).mono (fun b hb => ⟨by have:=hb.1; omega,by have:=hb.2; omega,?_⟩)))⟩
 ·refine ⟨hg.os.trans h.gr.os,hg.tape.trans h.gr.tape,hg.output.trans h.gr.output,by omega,fun i hi hn => ?_⟩
  exact (key i (by omega) (fun e => by have:=(hbl i e).1; omega)).trans (h.gr.block i hi hn)
 ·rcases hnew with e | e
  ·rw [e]; exact hS.2.2
  ·rw [e]; intro e'; injection e' with e'; have:=hS.2.1; omega
 ·rcases hnew with e | e
  ·rw [e]; intro e'; have:=hus b e'; have:=hb.1; omega
  ·rw [e]; intro e'; injection e' with e'; have:=hb.2; omega
end
end Go.Proofs.YtgdngfdeeadlnaaGreatDoor
namespace Go.Proofs.YtgdngfdeeadlnaaGreatDoor
open Go
section
variable {f : Nat} {r r1 r2 r3 r4 q o o2 : List UInt8} {xs ys acc : List Tree}
theorem args_1 (h : takeB (· == [40]) r = none) : PF (f + 1) .args r = .bad r := by simp only [PF]; rw [h]
theorem args_2 (h1 : takeB (· == [40]) r = some (o,r1)) (h2 : PF f .cond r1 = .bad q) : PF (f + 1) .args r = .bad q := by simp only [PF]; rw [h1]; simp only; rw [h2]
theorem args_3 (h1 : takeB (· == [40]) r = some (o,r1)) (h2 : PF f .cond r1 = .ok xs r2) (h3 : takeB (· == [44]) r2 = none) : PF (f + 1) .args r = .bad r2 := by
 simp only [PF]; rw [h1]; simp only; rw [h2]; simp only; rw [h3]
theorem args_4 (h1 : takeB (· == [40]) r = some (o,r1)) (h2 : PF f .cond r1 = .ok xs r2) (h3 : takeB (· == [44]) r2 = some (o2,r3)) (h4 : PF f .cond r3 = .bad q) : PF (f + 1) .args r = .bad q := by
 simp only [PF]; rw [h1]; simp only; rw [h2]; simp only; rw [h3]; simp only; rw [h4]
theorem args_5 (h1 : takeB (· == [40]) r = some (o,r1)) (h2 : PF f .cond r1 = .ok xs r2) (h3 : takeB (· == [44]) r2 = some (o2,r3)) (h4 : PF f .cond r3 = .ok ys r4) : PF (f + 1) .args r = PF f (.more (xs ++ ys)) r4 := by
 conv => lhs; simp only [PF]
 rw [h1]; simp only; rw [h2]; simp only; rw [h3]; simp only; rw [h4]
theorem more_1 (h : wordB r = [44]) (h1 : takeB (· == [44]) r = some (o,r1)) (h2 : PF f .cond r1 = .bad q) : PF (f + 1) (.more acc) r = .bad q := by
 simp only [PF]; rw [if_pos h,h1]; simp only; rw [h2]
theorem more_2 (h : wordB r = [44]) (h1 : takeB (· == [44]) r = some (o,r1)) (h2 : PF f .cond r1 = .ok xs r2) : PF (f + 1) (.more acc) r = PF f (.more (acc ++ xs)) r2 := by
 conv => lhs; simp only [PF]
 rw [if_pos h,h1]; simp only; rw [h2]
theorem more_3 (h : ¬ wordB r = [44]) (h1 : takeB (· == [41]) r = none) : PF (f + 1) (.more acc) r = .bad r := by simp only [PF]; rw [if_neg h,h1]
theorem more_4 (h : ¬ wordB r = [44]) (h1 : takeB (· == [41]) r = some (o,r1)) : PF (f + 1) (.more acc) r = .ok acc r1 := by simp only [PF]; rw [if_neg h,h1]
theorem comma_some (h : wordB r = [44]) : ∃ r1,takeB (· == [44]) r = some ([44],r1) := by
 unfold takeB; rw [if_pos ⟨by rw [h]; simp,by rw [h]; rfl⟩,h]; exact ⟨_,rfl⟩
end
theorem PF_len : ∀ (f : Nat) (m : Md) (r : List UInt8) (xs : List Tree) (q : List UInt8),PF f m r = .ok xs q → q.length < r.length ∧ (m = .cond → ∃ T,xs = [T]) := by
 intro f
 induction f with
 | zero => intro m r xs q h; simp [PF] at h
 | succ f ih =>
  intro m r xs q h
  cases m with
  | cond =>
   simp only [PF] at h
   split at h
   ·cases h
   ·rename_i w r1 ht
    have l1:=take_len ht
    split at h
    ·split at h
     ·cases h
     ·rename_i ys q' ha
      injection h with h1 h2; subst h1; subst h2
      have:=(ih _ _ _ _ ha).1
      exact ⟨by omega,fun _ => ⟨_,rfl⟩⟩
    ·split at h
     ·split at h
      ·cases h
      ·rename_i n q' hn
       injection h with h1 h2; subst h1; subst h2
       have:=num_len hn
       exact ⟨by omega,fun _ => ⟨_,rfl⟩⟩
     ·split at h
      ·split at h
       ·cases h
       ·rename_i y r2 hy
        split at h
        ·cases h
        ·rename_i o r3 ho
         split at h
         ·cases h
         ·rename_i n q' hn
          injection h with h1 h2; subst h1; subst h2
          have a1:=num_len hy
          have a2:=take_len ho
          have a3:=num_len hn
          exact ⟨by omega,fun _ => ⟨_,rfl⟩⟩
      ·split at h
       ·split at h
        ·cases h
        ·rename_i fd r2 h1'
         split at h
         ·cases h
         ·rename_i tx r3 h2'
          split at h
          ·cases h
          ·rename_i o r4 h3'
           split at h
           ·cases h
           ·rename_i n q' hn
            injection h with h1 h2; subst h1; subst h2
            have a1:=take_len h1'
            have a2:=take_len h2'
            have a3:=take_len h3'
            have a4:=num_len hn
            exact ⟨by omega,fun _ => ⟨_,rfl⟩⟩
       ·injection h with h1 h2; subst h1; subst h2
        exact ⟨l1,fun _ => ⟨_,rfl⟩⟩
  | args =>
   simp only [PF] at h
   split at h
   ·cases h
   ·rename_i o r1 h1
    split at h
    ·cases h
    ·rename_i xs' r2 h2
     split at h
     ·cases h
     ·rename_i o2 r3 h3
      split at h
      ·cases h
      ·rename_i ys r4 h4
       have a1:=take_len h1
       have a2:=(ih _ _ _ _ h2).1
       have a3:=take_len h3
       have a4:=(ih _ _ _ _ h4).1
       have a5:=(ih _ _ _ _ h).1
       exact ⟨by omega,fun e => by cases e⟩
  | more acc =>
   simp only [PF] at h
   split at h
   ·split at h
    ·cases h
    ·rename_i o r1 h1
     split at h
     ·cases h
     ·rename_i xs' r2 h2
      have a1:=take_len h1
      have a2:=(ih _ _ _ _ h2).1
      have a5:=(ih _ _ _ _ h).1
      exact ⟨by omega,fun e => by cases e⟩
   ·split at h
    ·cases h
    ·rename_i o r1 h1
     injection h with h1' h2'; subst h1'; subst h2'
     exact ⟨take_len h1,fun e => by cases e⟩
end Go.Proofs.YtgdngfdeeadlnaaGreatDoor
namespace Go.Proofs.YtgdngfdeeadlnaaGreatDoor
open Go.RowKit Num
def CondC (f : Nat) : Prop := ∀ (rb : Nat) (s : ByteArray) (r : List UInt8) (w : World),Rd w rb s r → r.length < f → 7 < rb → s.size ≤ 100000 → ParOk w →
 Calls Tryz.prog 129 #[.pointer (some ⟨rb,0,none⟩)] w (CondPost w rb s f (PF f .cond r))
theorem infoP2 : (Tryz.prog.info? 138).map (fun i => (i.zero,i.size,i.bytes)) = some (some (.pointer none),1,8) := by kernel_rfl
theorem ParOk.rb {w w' : World} {rb : Nat} (h : ParOk w) (hg : w.grownBy w' (some rb)) (h6 : 7 < rb) : ParOk w' := h.grown hg (fun b hb => by injection hb with hb; omega)
set_option maxRecDepth 100000 in
set_option maxHeartbeats 4000000 in
theorem f_args_1 (rb f : Nat) (s : ByteArray) (r : List UInt8) (w : World) (hr : Rd w rb s r) (hlen : r.length < f + 1) (h6 : 7 < rb) (hs : s.size ≤ 100000) (hl : ParOk w) (hc : CondC f) (h1 : takeB (· == [40]) r = none) : Calls Tryz.prog 162 #[.pointer (some ⟨rb,0,none⟩)] w (ArgsPost w rb s (f + 1) (.bad r)) := by
 have hrl:=hr.lt
 have HR:=Lib.hid hr
 have HL:=Lib.hid hl
 have HC:=Lib.hid hc
 clear hr hl hc
 have H1:=Lib.hid h1
 clear h1
 go_enter Tryz.func162,Tryz.ntmps162
 go_wp2_with fail
 refine (f_exactly rb [40] s r _ HR.out hs HL.out).mono ?_
 rw [H1.out]
 rintro e w9 ⟨hg9,rfl⟩
 go_wp2_with fail
 exact ⟨rfl,hg9,rfl⟩
set_option maxRecDepth 100000 in
set_option maxHeartbeats 4000000 in
theorem f_args_2 (rb f : Nat) (s : ByteArray) (r : List UInt8) (w : World) (hr : Rd w rb s r) (hlen : r.length < f + 1) (h6 : 7 < rb) (hs : s.size ≤ 100000) (hl : ParOk w) (hc : CondC f) (o r1 : List UInt8) (h1 : takeB (· == [40]) r = some (o,r1)) (q : List UInt8) (h2 : PF f .cond r1 = .bad q) : Calls Tryz.prog 162 #[.pointer (some ⟨rb,0,none⟩)] w (ArgsPost w rb s (f + 1) (.bad q)) := by
 have l1:=take_len h1
 have hrl:=hr.lt
 have HR:=Lib.hid hr
 have HL:=Lib.hid hl
 have HC:=Lib.hid hc
 clear hr hl hc
 have H1:=Lib.hid h1
 have H2:=Lib.hid h2
 clear h1 h2
 go_enter Tryz.func162,Tryz.ntmps162
 go_wp2_with fail
 refine (f_exactly rb [40] s r _ HR.out hs HL.out).mono ?_
 rw [H1.out]
 rintro e w1 ⟨hg1,rfl,hrd1⟩
 have HL1:=Lib.hid (HL.out.rb hg1 h6)
 have HG1:=Lib.hid hg1
 have HRD1:=Lib.hid hrd1
 have hs1:=hg1.size
 clear hg1 hrd1
 go_wp2_with fail
 refine (HC.out rb s r1 _ HRD1.out (by omega) h6 hs HL1.out).mono ?_
 rw [H2.out]
 rintro e w9 ⟨hg9,rfl⟩
 go_wp2_with fail
 exact ⟨rfl,HG1.out.trans hg9,rfl⟩
set_option maxRecDepth 100000 in
set_option maxHeartbeats 4000000 in
theorem f_args_3 (rb f : Nat) (s : ByteArray) (r : List UInt8) (w : World) (hr : Rd w rb s r) (hlen : r.length < f + 1) (h6 : 7 < rb) (hs : s.size ≤ 100000) (hl : ParOk w) (hc : CondC f) (o r1 : List UInt8) (h1 : takeB (· == [40]) r = some (o,r1)) (T1 : Tree) (r2 : List UInt8) (h2 : PF f .cond r1 = .ok [T1] r2) (h3 : takeB (· == [44]) r2 = none) : Calls Tryz.prog 162 #[.pointer (some ⟨rb,0,none⟩)] w (ArgsPost w rb s (f + 1) (.bad r2)) := by
 have l1:=take_len h1
 have l2:=(PF_len _ _ _ _ _ h2).1
 have hrl:=hr.lt
 have HR:=Lib.hid hr
 have HL:=Lib.hid hl
 have HC:=Lib.hid hc
 clear hr hl hc
 have H1:=Lib.hid h1
 have H2:=Lib.hid h2
 have H3:=Lib.hid h3
 clear h1 h2 h3
 go_enter Tryz.func162,Tryz.ntmps162
 go_wp2_with fail
 refine (f_exactly rb [40] s r _ HR.out hs HL.out).mono ?_
 rw [H1.out]
 rintro e w1 ⟨hg1,rfl,hrd1⟩
 have HL1:=Lib.hid (HL.out.rb hg1 h6)
 have HG1:=Lib.hid hg1
 have HRD1:=Lib.hid hrd1
 have hs1:=hg1.size
 clear hg1 hrd1
 go_wp2_with fail
 refine (HC.out rb s r1 _ HRD1.out (by omega) h6 hs HL1.out).mono ?_
 rw [H2.out]
 rintro e w2 ⟨hg2,p,rfl,hrd2,ht2⟩
 obtain ⟨pb,rfl,-⟩:=ht2.ptr
 have hg02:=HG1.out.trans hg2
 have hs2:=hg02.size
 have hak:=ArgK.one (d:=f) hrl hg02 (p:=.pointer (some ⟨pb,0,none⟩)) rfl (ht2.mono fun b hb => ⟨by have:=hb.1; omega,hb.2⟩) (Nat.le_refl f)
 have HAK2:=Lib.hid hak
 have hb2a:Below w2.heap.size w2 (w2.alloc (.cells #[.pointer (some ⟨pb,0,none⟩)] 138)):=(Below.refl _ _).alloc (Nat.le_refl _) _
 have HRD2:=Lib.hid (hrd2.below hb2a)
 have HL2:=Lib.hid (HL.out.rb hak.gr h6)
 have HG2:=Lib.hid hak.gr
 clear hg2 hrd2 ht2 hg02 hak hb2a
 go_wp2_with fail
 refine (f_exactly rb [44] s r2 _ HRD2.out hs HL2.out).mono ?_
 rw [H3.out]
 rintro e w9 ⟨hg9,rfl⟩
 go_wp2_with fail
 exact ⟨rfl,HG2.out.trans hg9,rfl⟩
set_option maxRecDepth 100000 in
set_option maxHeartbeats 4000000 in
theorem f_args_4 (rb f : Nat) (s : ByteArray) (r : List UInt8) (w : World) (hr : Rd w rb s r) (hlen : r.length < f + 1) (h6 : 7 < rb) (hs : s.size ≤ 100000) (hl : ParOk w) (hc : CondC f) (o r1 : List UInt8) (h1 : takeB (· == [40]) r = some (o,r1)) (T1 : Tree) (r2 : List UInt8) (h2 : PF f .cond r1 = .ok [T1] r2) (o2 r3 : List UInt8) (h3 : takeB (· == [44]) r2 = some (o2,r3)) (q : List UInt8) (h4 : PF f .cond r3 = .bad q) : Calls Tryz.prog 162 #[.pointer (some ⟨rb,0,none⟩)] w (ArgsPost w rb s (f + 1) (.bad q)) := by
 have l1:=take_len h1
 have l2:=(PF_len _ _ _ _ _ h2).1
 have l3:=take_len h3
 have hrl:=hr.lt
 have HR:=Lib.hid hr
 have HL:=Lib.hid hl
 have HC:=Lib.hid hc
 clear hr hl hc
 have H1:=Lib.hid h1
 have H2:=Lib.hid h2
 have H3:=Lib.hid h3
 have H4:=Lib.hid h4
 clear h1 h2 h3 h4
 go_enter Tryz.func162,Tryz.ntmps162
 go_wp2_with fail
 refine (f_exactly rb [40] s r _ HR.out hs HL.out).mono ?_
 rw [H1.out]
 rintro e w1 ⟨hg1,rfl,hrd1⟩
 have HL1:=Lib.hid (HL.out.rb hg1 h6)
 have HG1:=Lib.hid hg1
 have HRD1:=Lib.hid hrd1
 have hs1:=hg1.size
 clear hg1 hrd1
 go_wp2_with fail
 refine (HC.out rb s r1 _ HRD1.out (by omega) h6 hs HL1.out).mono ?_
 rw [H2.out]
 rintro e w2 ⟨hg2,p,rfl,hrd2,ht2⟩
 obtain ⟨pb,rfl,-⟩:=ht2.ptr
 have hg02:=HG1.out.trans hg2
 have hs2:=hg02.size
 have hak:=ArgK.one (d:=f) hrl hg02 (p:=.pointer (some ⟨pb,0,none⟩)) rfl (ht2.mono fun b hb => ⟨by have:=hb.1; omega,hb.2⟩) (Nat.le_refl f)
 have HAK2:=Lib.hid hak
 have hb2a:Below w2.heap.size w2 (w2.alloc (.cells #[.pointer (some ⟨pb,0,none⟩)] 138)):=(Below.refl _ _).alloc (Nat.le_refl _) _
 have HRD2:=Lib.hid (hrd2.below hb2a)
 have HL2:=Lib.hid (HL.out.rb hak.gr h6)
 have HG2:=Lib.hid hak.gr
 clear hg2 hrd2 ht2 hg02 hak hb2a
 go_wp2_with fail
 refine (f_exactly rb [44] s r2 _ HRD2.out hs HL2.out).mono ?_
 rw [H3.out]
 rintro e w3 ⟨hg3,rfl,hrd3⟩
 have hak:=HAK2.out.call hg3
 have HAK3:=Lib.hid hak
 have HL3:=Lib.hid (HL.out.rb hak.gr h6)
 have HG3:=Lib.hid hak.gr
 have HRD3:=Lib.hid hrd3
 have hs3:=hak.gr.size
 clear hg3 hrd3 hak
 go_wp2_with fail
 refine (HC.out rb s r3 _ HRD3.out (by omega) h6 hs HL3.out).mono ?_
 rw [H4.out]
 rintro e w9 ⟨hg9,rfl⟩
 go_wp2_with fail
 exact ⟨rfl,HG3.out.trans hg9,rfl⟩
set_option maxRecDepth 100000 in
set_option maxHeartbeats 4000000 in
theorem f_args_5 (rb f : Nat) (s : ByteArray) (r : List UInt8) (w : World) (hr : Rd w rb s r) (hlen : r.length < f + 1) (h6 : 7 < rb) (hs : s.size ≤ 100000) (hl : ParOk w) (hc : CondC f) (hcs : ∀ f',f' ≤ f → CondC f') (o r1 : List UInt8) (h1 : takeB (· == [40]) r = some (o,r1)) (T1 : Tree) (r2 : List UInt8) (h2 : PF f .cond r1 = .ok [T1] r2) (o2 r3 : List UInt8) (h3 : takeB (· == [44]) r2 = some (o2,r3)) (T2 : Tree) (r4 : List UInt8) (h4 : PF f .cond r3 = .ok [T2] r4) : Calls Tryz.prog 162 #[.pointer (some ⟨rb,0,none⟩)] w (ArgsPost w rb s (f + 1) (PF f (.more ([T1] ++ [T2])) r4)) := by
 obtain ⟨i0,hi,hz0,hz1,hz2⟩:=info_parts infoP2
 have HCS:=Lib.hid hcs
 clear hcs
 have l1:=take_len h1
 have l2:=(PF_len _ _ _ _ _ h2).1
 have l3:=take_len h3
 have l4:=(PF_len _ _ _ _ _ h4).1
 have hrl:=hr.lt
 have HR:=Lib.hid hr
 have HL:=Lib.hid hl
 have HC:=Lib.hid hc
 clear hr hl hc
 have H1:=Lib.hid h1
 have H2:=Lib.hid h2
 have H3:=Lib.hid h3
 have H4:=Lib.hid h4
 clear h1 h2 h3 h4
 obtain ⟨pr,hpr⟩:∃ pr,PF f (.more ([T1] ++ [T2])) r4=pr:=⟨_,rfl⟩
 rw [hpr]
 have HPR:=Lib.hid hpr
 clear hpr
 go_enter Tryz.func162,Tryz.ntmps162
 go_wp2_with fail
 refine (f_exactly rb [40] s r _ HR.out hs HL.out).mono ?_
 rw [H1.out]
 rintro e w1 ⟨hg1,rfl,hrd1⟩
 have HL1:=Lib.hid (HL.out.rb hg1 h6)
 have HG1:=Lib.hid hg1
 have HRD1:=Lib.hid hrd1
 have hs1:=hg1.size
 clear hg1 hrd1
 go_wp2_with fail
 refine (HC.out rb s r1 _ HRD1.out (by omega) h6 hs HL1.out).mono ?_
 rw [H2.out]
 rintro e w2 ⟨hg2,p,rfl,hrd2,ht2⟩
 obtain ⟨pb,rfl,-⟩:=ht2.ptr
 have hg02:=HG1.out.trans hg2
 have hs2:=hg02.size
 have hak:=ArgK.one (d:=f) hrl hg02 (p:=.pointer (some ⟨pb,0,none⟩)) rfl (ht2.mono fun b hb => ⟨by have:=hb.1; omega,hb.2⟩) (Nat.le_refl f)
 have HAK2:=Lib.hid hak
 have hb2a:Below w2.heap.size w2 (w2.alloc (.cells #[.pointer (some ⟨pb,0,none⟩)] 138)):=(Below.refl _ _).alloc (Nat.le_refl _) _
 have HRD2:=Lib.hid (hrd2.below hb2a)
 have HL2:=Lib.hid (HL.out.rb hak.gr h6)
 have HG2:=Lib.hid hak.gr
 clear hg2 hrd2 ht2 hg02 hak hb2a
 go_wp2_with fail
 refine (f_exactly rb [44] s r2 _ HRD2.out hs HL2.out).mono ?_
 rw [H3.out]
 rintro e w3 ⟨hg3,rfl,hrd3⟩
 have hak:=HAK2.out.call hg3
 have HAK3:=Lib.hid hak
 have HL3:=Lib.hid (HL.out.rb hak.gr h6)
 have HG3:=Lib.hid hak.gr
 have HRD3:=Lib.hid hrd3
 have hs3:=hak.gr.size
 clear hg3 hrd3 hak
 go_wp2_with fail
 refine (HC.out rb s r3 _ HRD3.out (by omega) h6 hs HL3.out).mono ?_
 rw [H4.out]
 rintro e w4 ⟨hg4,p2,rfl,hrd4,ht4⟩
 obtain ⟨pb2,rfl,-⟩:=ht4.ptr
 have hus:=HAK3.out.own_lt
 have hak:=HAK3.out.call hg4
 have hown4:w4.ownsRow w.heap.size 138 1 (.slice (some ⟨w2.heap.size,0,none⟩) 1 1) 1 [.pointer (some ⟨pb,0,none⟩)]:=hak.own
 have hs4:=hg4.size
 have HAK4:=Lib.hid hak
 have HUS:=Lib.hid hus
 have HT4:=Lib.hid ht4
 have HRD4:=Lib.hid hrd4
 clear hg4 hrd4 ht4 hak hus
 go_wp2_with (at_builtin; refine wpList_append_own_at _ rfl _ _ 167 rfl w.heap.size 138 i0 (.pointer none) 1 8 Tryz.underlying167 hi hz0 hz1 hz2 rfl (by decide) _ _ _ rfl (hown4.alloc _) ⟨w4.heap.size,0,none⟩ 1 1 [.pointer (some ⟨pb2,0,none⟩)] rfl rfl (cell_one_new _ _ _) (by intro u hu; simp at hu; subst hu; rfl) (by unfold maxLen; omega) (by omega) (by simp; omega) ?_)
 intro u5 w5 hown5 hgrow5 _ hwh5
 have hak5:=ArgK.append HAK4.out (s:=w3.heap.size) (fun g hg => (HUS.out g hg).2) hs3 HT4.out (Nat.le_refl f) hown5 hgrow5 hwh5
 have hrd5:Rd w5 rb s r4:=HRD4.out.keep ((hgrow5.block rb (by have:=HRD4.out.lt; simp; omega) (fun e => by have:=(HAK4.out.own_lt rb e.symm).1; omega)).trans (Below.heap_alloc w4 _ rb HRD4.out.lt))
 have HAK5:=Lib.hid hak5
 have HRD5:=Lib.hid hrd5
 clear hak5 hrd5 hown5 hgrow5 hwh5 hown4
 go_wp2_with fail
 go_loopw [3] (fun u wr => ∃ (f':Nat) (acc:List Tree) (r':List UInt8) (ps:List Value),f' ≤ f ∧ r'.length < f' ∧ PF f' (.more acc) r'=pr ∧ Rd wr rb s r' ∧ ArgK w wr rb f acc u ps ∧ acc.length ≤ s.size - r'.length) (fun _ wr => farR wr rb s.size)
 case atStart => exact ⟨f,[T1] ++ [T2],r4,_,Nat.le_refl f,by omega,HPR.out,HRD5.out,HAK5.out,by have:=HR.out.pos.2.2.2; simp; omega⟩
 case round =>
  obtain ⟨f',acc,r',ps,hf,hlf,hpf,hrd,hak,hal⟩:=hrel
  obtain ⟨h,rfl⟩:∃ h,f'=h+1:=⟨f' - 1,by omega⟩
  obtain ⟨hbk,hps,hdr,hrs⟩:=hrd.pos
  have cfar:=(hbk.cell 1).trans (show _=some (Value.int .i64 (posR s r':Int)) from rfl)
  have HFAR:=Lib.hid cfar
  have HL5:=Lib.hid (HL.out.rb hak.gr h6)
  have HRD6:=Lib.hid hrd
  have HAK6:=Lib.hid hak
  have HPF:=Lib.hid hpf
  have hs6:=hak.gr.size
  have hposr:posR s r'=s.size - r'.length:=rfl
  clear hbk hdr cfar hrd hak hpf
  by_cases hw:wordB r' = [44]
  ·obtain ⟨q1,hq1⟩:=comma_some hw
   have t1:((bsOf (wordB r')).toList == [44])=true:=by rw [ByteArray.toList_eq]; show (wordB r' == [44])=true; rw [hw]; rfl
   have t2:(bsOf (wordB r')).toList = [44]:=by rw [ByteArray.toList_eq]; exact hw
   have lq1:=take_len hq1
   have HW:=Lib.hid hw
   have HQ1:=Lib.hid hq1
   clear hw hq1
   rcases hx:PF h .cond q1 with ⟨ys,q2⟩ | q2
   ·obtain ⟨hl2',hone⟩:=PF_len _ _ _ _ _ hx
    obtain ⟨T3,rfl⟩:=hone rfl
    have HX:=Lib.hid hx
    clear hx hone
    go_wp2_with fail
    refine (f_word rb s r' _ HRD6.out hs HL5.out).mono ?_
    rintro e w7 ⟨rfl,n7,rfl⟩
    have HRD7:=Lib.hid (HRD6.out.keep (w':=wr.drewN n7) rfl)
    have HAK7:=Lib.hid (HAK6.out.call (grown_drewN wr n7 _))
    have HL7:=Lib.hid (HL.out.rb HAK7.out.gr h6)
    go_wp2_with fail
    refine (f_exactly rb [44] s r' _ HRD7.out hs HL7.out).mono ?_
    rw [HQ1.out]
    rintro e w8 ⟨hg8,rfl,hrd8⟩
    have hak:=HAK7.out.call hg8
    have HAK8:=Lib.hid hak
    have HL8:=Lib.hid (HL.out.rb hak.gr h6)
    have HRD8:=Lib.hid hrd8
    have hs8:=hak.gr.size
    clear hg8 hrd8 hak
    go_wp2_with fail
    refine (HCS.out h (by omega) rb s q1 _ HRD8.out (by omega) h6 hs HL8.out).mono ?_
    rw [HX.out]
    rintro e w9 ⟨hg9,p9,rfl,hrd9,ht9⟩
    obtain ⟨pb9,rfl,-⟩:=ht9.ptr
    have hus:=HAK8.out.own_lt
    have hak:=HAK8.out.call hg9
    have hown9:=hak.own
    have hs9:=hg9.size
    have HAK9:=Lib.hid hak
    have HUS9:=Lib.hid hus
    have HT9:=Lib.hid ht9
    have HRD9:=Lib.hid hrd9
    clear hg9 hrd9 ht9 hak hus
    go_wp2_with (at_builtin; refine wpList_append_own_at _ rfl _ _ 167 rfl w.heap.size 138 i0 (.pointer none) 1 8 Tryz.underlying167 hi hz0 hz1 hz2 rfl (by decide) _ _ _ rfl (hown9.alloc _) ⟨w9.heap.size,0,none⟩ 1 1 [.pointer (some ⟨pb9,0,none⟩)] rfl rfl (cell_one_new _ _ _) (by intro u hu; simp at hu; subst hu; rfl) (by unfold maxLen; omega) (by omega) (by simp; omega) ?_)
    intro u10 w10 hown10 hgrow10 _ hwh10
    have hak10:=ArgK.append HAK9.out (s:=w8.heap.size) (fun g hg => (HUS9.out g hg).2) hs8 HT9.out (show h ≤ f by omega) hown10 hgrow10 hwh10
    have hrd10:Rd w10 rb s q2:=HRD9.out.keep ((hgrow10.block rb (by have:=HRD9.out.lt; simp; omega) (fun e => by have:=(HAK9.out.own_lt rb e.symm).1; omega)).trans (Below.heap_alloc w9 _ rb HRD9.out.lt))
    have cfar2:=(hrd10.pos.1.cell 1).trans (show _=some (Value.int .i64 (posR s q2:Int)) from rfl)
    have hposq:posR s q2=s.size - q2.length:=rfl
    have hqs:=hrd10.pos.2.2.2
    have HFAR2:=Lib.hid cfar2
    have HAK10:=Lib.hid hak10
    have HRD10:=Lib.hid hrd10
    clear hak10 hrd10 hown10 hgrow10 hwh10 hown9 cfar2
    go_wp2_with fail
    go_roundw
    case measure => rw [farR_of HFAR.out,farR_of HFAR2.out]; omega
    case rel => exact ⟨h,acc ++ [T3],q2,_,by omega,by omega,by rw [← HPF.out]; exact (more_2 HW.out HQ1.out HX.out).symm,HRD10.out,HAK10.out,by simp; omega⟩
   ·have HX:=Lib.hid hx
    clear hx
    go_wp2_with fail
    refine (f_word rb s r' _ HRD6.out hs HL5.out).mono ?_
    rintro e w7 ⟨rfl,n7,rfl⟩
    have HRD7:=Lib.hid (HRD6.out.keep (w':=wr.drewN n7) rfl)
    have HAK7:=Lib.hid (HAK6.out.call (grown_drewN wr n7 _))
    have HL7:=Lib.hid (HL.out.rb HAK7.out.gr h6)
    go_wp2_with fail
    refine (f_exactly rb [44] s r' _ HRD7.out hs HL7.out).mono ?_
    rw [HQ1.out]
    rintro e w8 ⟨hg8,rfl,hrd8⟩
    have hak:=HAK7.out.call hg8
    have HAK8:=Lib.hid hak
    have HL8:=Lib.hid (HL.out.rb hak.gr h6)
    have HRD8:=Lib.hid hrd8
    clear hg8 hrd8 hak
    go_wp2_with fail
    refine (HCS.out h (by omega) rb s q1 _ HRD8.out (by omega) h6 hs HL8.out).mono ?_
    rw [HX.out]
    rintro e w9 ⟨hg9,rfl⟩
    go_wp2_with fail
    have hpr:pr=.bad q2:=by rw [← HPF.out]; exact more_1 HW.out HQ1.out HX.out
    rw [hpr]
    exact ⟨rfl,HAK8.out.gr.trans hg9,rfl⟩
  ·have t1:((bsOf (wordB r')).toList == [44])=false:=by rw [ByteArray.toList_eq]; show (wordB r' == [44])=false; simpa using hw
   have t2:¬ (bsOf (wordB r')).toList = [44]:=by rw [ByteArray.toList_eq]; exact hw
   have HW:=Lib.hid hw
   clear hw
   rcases hq1:takeB (· == [41]) r' with _ | ⟨o',q1⟩
   ·have HQ1:=Lib.hid hq1
    clear hq1
    go_wp2_with fail
    refine (f_word rb s r' _ HRD6.out hs HL5.out).mono ?_
    rintro e w7 ⟨rfl,n7,rfl⟩
    have HRD7:=Lib.hid (HRD6.out.keep (w':=wr.drewN n7) rfl)
    have HAK7:=Lib.hid (HAK6.out.call (grown_drewN wr n7 _))
    have HL7:=Lib.hid (HL.out.rb HAK7.out.gr h6)
    go_wp2_with fail
    refine (f_exactly rb [41] s r' _ HRD7.out hs HL7.out).mono ?_
    rw [HQ1.out]
    rintro e w8 ⟨hg8,rfl⟩
    go_wp2_with fail
    have hpr:pr=.bad r':=by rw [← HPF.out]; exact more_3 HW.out HQ1.out
    rw [hpr]
    exact ⟨rfl,HAK7.out.gr.trans hg8,rfl⟩
   ·have HQ1:=Lib.hid hq1
    clear hq1
    go_wp2_with fail
    refine (f_word rb s r' _ HRD6.out hs HL5.out).mono ?_
    rintro e w7 ⟨rfl,n7,rfl⟩
    have HRD7:=Lib.hid (HRD6.out.keep (w':=wr.drewN n7) rfl)
    have HAK7:=Lib.hid (HAK6.out.call (grown_drewN wr n7 _))
    have HL7:=Lib.hid (HL.out.rb HAK7.out.gr h6)
    go_wp2_with fail
    refine (f_exactly rb [41] s r' _ HRD7.out hs HL7.out).mono ?_
    rw [HQ1.out]
    rintro e w8 ⟨hg8,rfl,hrd8⟩
    have hak:=HAK7.out.call hg8
    have HAK8:=Lib.hid hak
    have HRD8:=Lib.hid hrd8
    clear hg8 hrd8 hak
    go_wp2_with fail
    go_ret
    have hpr:pr=.ok acc q1:=by rw [← HPF.out]; exact more_4 HW.out HQ1.out
    rw [hpr]
    exact ⟨HAK8.out.gr,_,_,rfl,HRD8.out,HAK8.out.own,fun i x hx => by
     obtain ⟨p,hp,ht⟩:=HAK8.out.kids i x hx
     exact ⟨p,hp,(ht.mono fun b hb => ⟨hb.1,hb.2.1⟩).deeper (Nat.le_succ f)⟩⟩
end Go.Proofs.YtgdngfdeeadlnaaGreatDoor
