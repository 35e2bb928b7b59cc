/- Contracts: a text is read, or where it fails. And more. -/
import Derived.Test.YtgdngfdeeadlnaaGreatDoorZ20
import Derived.Test.YtgdngfdeeadlnaaGreatDoorZ10
import Derived.Test.YtgdngfdeeadlnaaGreatDoorZ15
import Derived.Test.YtgdngfdeeadlnaaGreatDoorZ07
set_option linter.unusedVariables false
set_option linter.unusedSimpArgs false
namespace Go.Proofs.YtgdngfdeeadlnaaGreatDoor
open Go.RowKit Num
def ParsePost (w : World) (F : Nat) (o : Tree ⊕ Nat) (e : Ending) (w' : World) : Prop := Below w.heap.size w w' ∧ match o with
 | .inr k => ∃ v,e=.returned (.tuple #[v,.int .i64 (k:Int)])
 | .inl T => ∃ v,e=.returned (.tuple #[v,.int .i64 (-1)]) ∧ TreeZ w' (NewS w w') F v T
abbrev parW (w : World) (s : ByteArray) : World := (w.alloc (.cells #[.int .i64 (-1)] 3)).alloc (.cells #[.string s,.int .i64 0] 177)
set_option maxRecDepth 100000 in
set_option maxHeartbeats 4000000 in
theorem f_parse_bad (s : ByteArray) (q : List UInt8) (w : World) (hs : s.size ≤ 100000) (hl : ParOk w) (hp : PF (s.size + 1) .cond (spaceB (blOf s)) = .bad q) :
  Calls Tryz.prog 102 #[.string s] w (ParsePost w (s.size+1) (.inr (posR s q))):=by
 have hmf:∀ (fn:Fn) (first cap:Array Value) (w:World),(Instr.makeFunc fn first cap).run Tryz.prog w=.ok (.func fn first cap) w:=fun _ _ _ _ => rfl
 have hb1:Below w.heap.size w (parW w s):=((Below.refl _ _).alloc (Nat.le_refl _) _).alloc (by simp) _
 have hbk:Blk (parW w s) (w.heap.size+1) 177 #[.string s,.int .i64 ((0:Nat):Int)]:=by
  have:=Blk.new (w.alloc (.cells #[.int .i64 (-1)] 3)) 177 #[.string s,.int .i64 0]
  simpa using this
 have hrd:Rd (parW w s) (w.heap.size+1) s (blOf s):=⟨0,hbk,by omega,rfl⟩
 have hab:Blk (parW w s) w.heap.size 3 #[.int .i64 (-1)]:=(Blk.new w 3 #[.int .i64 (-1)]).alloc _
 have h6:7 < w.heap.size+1:=by have:=hl.size; omega
 have HRD:=Lib.hid hrd
 have HAB:=Lib.hid hab
 have HB1:=Lib.hid hb1
 have HL1:=Lib.hid (hl.later hb1)
 have HP:=Lib.hid hp
 have hsl:=space_len (blOf s)
 have hbl:=blOf_len s
 have hbel:∀ (W:World),(parW w s).grownBy W (some (w.heap.size+1)) → Below w.heap.size w W:=fun W hg => HB1.out.trans ⟨hg.os,hg.tape,hg.output,hg.size,fun i hi => hg.block i (by simp; omega) (by intro e; injection e with e; omega)⟩
 have HBEL:=Lib.hid hbel
 clear hbel
 clear hb1 hbk hrd hab hl hp
 go_enter_defers Tryz.func102,Tryz.ntmps102
 go_wp2_with fail
 refine (f_space (w.heap.size+1) s (blOf s) _ HRD.out hs).mono ?_
 rintro e w2 ⟨rfl,hrd2,hg2⟩
 have HRD2:=Lib.hid hrd2
 have HL2:=Lib.hid (HL1.out.rb hg2 h6)
 have hab2:=Blk.grown' HAB.out hg2 (by intro e; injection e with e; omega)
 have HAB2:=Lib.hid hab2
 have HG2:=Lib.hid hg2
 have hs2:w.heap.size+2 ≤ w2.heap.size:=by have:=hg2.size; simp at this; omega
 clear hrd2 hg2 hab2
 go_wp2_with fail
 refine (f_condition (s.size+1) (w.heap.size+1) s _ _ HRD2.out (by omega) h6 hs HL2.out).mono ?_
 rw [HP.out]
 rintro e w3 ⟨hg3,rfl⟩
 have hab3:=Blk.grown' HAB2.out hg3 (by intro e; injection e with e; omega)
 have c3:=(hab3.cell 0).trans (show _=some (Value.int .i64 (-1)) from rfl)
 have f3:=hab3.frozen 0
 have HB3:=Lib.hid (HBEL.out w3 (HG2.out.trans hg3))
 clear hg3
 go_wp2_with fail
 refine leaves_cons (f:=127) (args:=#[.pointer (some ⟨w.heap.size,0,none⟩)]) (by simp) (by simp [go_sem]) ?_
 refine (catch_panicking ⟨w.heap.size,0,none⟩ (-1) _ _ c3 f3).mono ?_
 rintro e u' w'' ⟨rfl,rfl,rfl⟩
 have hk3:(w3.setCell ⟨w.heap.size,0,none⟩ (.int .i64 (posR s q:Int))).cell? ⟨w.heap.size,0,none⟩=some (.int .i64 (posR s q:Int)):=World.cell?_setCell_same _ _ _ c3
 have hfin:Below w.heap.size w (w3.setCell ⟨w.heap.size,0,none⟩ (.int .i64 (posR s q:Int))):=HB3.out.setCell (Nat.le_refl _) _
 simp [Leaves,settle,results,Tryz.results102,go_sem,hk3]
 exact ⟨hfin,_,rfl⟩
set_option maxRecDepth 100000 in
set_option maxHeartbeats 4000000 in
theorem f_parse_rest (s : ByteArray) (q : List UInt8) (T : Tree) (w : World) (hs : s.size ≤ 100000) (hl : ParOk w) (hp : PF (s.size + 1) .cond (spaceB (blOf s)) = .ok [T] q) (hq : q ≠ []) :
  Calls Tryz.prog 102 #[.string s] w (ParsePost w (s.size+1) (.inr (posR s q))):=by
 have hql:posR s q < s.size:=by
  have h1:=(PF_len _ _ _ _ _ hp).1
  have h2:=space_len (blOf s)
  have h3:=blOf_len s
  have h4:=List.length_pos_iff.2 hq
  unfold posR; omega
 clear hq
 have hmf:∀ (fn:Fn) (first cap:Array Value) (w:World),(Instr.makeFunc fn first cap).run Tryz.prog w=.ok (.func fn first cap) w:=fun _ _ _ _ => rfl
 have hb1:Below w.heap.size w (parW w s):=((Below.refl _ _).alloc (Nat.le_refl _) _).alloc (by simp) _
 have hbk:Blk (parW w s) (w.heap.size+1) 177 #[.string s,.int .i64 ((0:Nat):Int)]:=by
  have:=Blk.new (w.alloc (.cells #[.int .i64 (-1)] 3)) 177 #[.string s,.int .i64 0]
  simpa using this
 have hrd:Rd (parW w s) (w.heap.size+1) s (blOf s):=⟨0,hbk,by omega,rfl⟩
 have hab:Blk (parW w s) w.heap.size 3 #[.int .i64 (-1)]:=(Blk.new w 3 #[.int .i64 (-1)]).alloc _
 have h6:7 < w.heap.size+1:=by have:=hl.size; omega
 have HRD:=Lib.hid hrd
 have HAB:=Lib.hid hab
 have HB1:=Lib.hid hb1
 have HL1:=Lib.hid (hl.later hb1)
 have HP:=Lib.hid hp
 have hsl:=space_len (blOf s)
 have hbl:=blOf_len s
 have hbel:∀ (W:World),(parW w s).grownBy W (some (w.heap.size+1)) → Below w.heap.size w W:=fun W hg => HB1.out.trans ⟨hg.os,hg.tape,hg.output,hg.size,fun i hi => hg.block i (by simp; omega) (by intro e; injection e with e; omega)⟩
 have HBEL:=Lib.hid hbel
 clear hbel
 clear hb1 hbk hrd hab hl hp
 go_enter_defers Tryz.func102,Tryz.ntmps102
 go_wp2_with fail
 refine (f_space (w.heap.size+1) s (blOf s) _ HRD.out hs).mono ?_
 rintro e w2 ⟨rfl,hrd2,hg2⟩
 have HRD2:=Lib.hid hrd2
 have HL2:=Lib.hid (HL1.out.rb hg2 h6)
 have hab2:=Blk.grown' HAB.out hg2 (by intro e; injection e with e; omega)
 have HAB2:=Lib.hid hab2
 have HG2:=Lib.hid hg2
 have hs2:w.heap.size+2 ≤ w2.heap.size:=by have:=hg2.size; simp at this; omega
 clear hrd2 hg2 hab2
 go_wp2_with fail
 refine (f_condition (s.size+1) (w.heap.size+1) s _ _ HRD2.out (by omega) h6 hs HL2.out).mono ?_
 rw [HP.out]
 rintro e w3 ⟨hg3,v,rfl,hrd3,ht3⟩
 have hab3:=Blk.grown' HAB2.out hg3 (by intro e; injection e with e; omega)
 have c3:=(hab3.cell 0).trans (show _=some (Value.int .i64 (-1)) from rfl)
 have f3:=hab3.frozen 0
 have HB3:=Lib.hid (HBEL.out w3 (HG2.out.trans hg3))
 have HBK3:=Lib.hid hrd3.pos.1
 have r3:=(hrd3.pos.1.cell 1).trans (show _=some (Value.int .i64 (posR s q:Int)) from rfl)
 have HT3:=Lib.hid ht3
 obtain ⟨vb,rfl,hvb⟩:=ht3.ptr
 clear hg3 hrd3 ht3
 go_wp2_with fail
 refine (f_fail (w.heap.size+1) (posR s q) s _ HBK3.out).mono ?_
 rintro e w4 ⟨rfl,rfl⟩
 go_wp2_with fail
 refine leaves_cons (f:=127) (args:=#[.pointer (some ⟨w.heap.size,0,none⟩)]) (by simp) (by simp [go_sem]) ?_
 refine (catch_panicking ⟨w.heap.size,0,none⟩ (-1) _ _ c3 f3).mono ?_
 rintro e u' w'' ⟨rfl,rfl,rfl⟩
 have hk3:(w3.setCell ⟨w.heap.size,0,none⟩ (.int .i64 (posR s q:Int))).cell? ⟨w.heap.size,0,none⟩=some (.int .i64 (posR s q:Int)):=World.cell?_setCell_same _ _ _ c3
 have hfin:Below w.heap.size w (w3.setCell ⟨w.heap.size,0,none⟩ (.int .i64 (posR s q:Int))):=HB3.out.setCell (Nat.le_refl _) _
 simp [Leaves,settle,results,Tryz.results102,go_sem,hk3]
 exact ⟨hfin,_,rfl⟩
set_option maxRecDepth 100000 in
set_option maxHeartbeats 4000000 in
theorem f_parse_ok (s : ByteArray) (T : Tree) (w : World) (hs : s.size ≤ 100000) (hl : ParOk w) (hp : PF (s.size + 1) .cond (spaceB (blOf s)) = .ok [T] []) :
  Calls Tryz.prog 102 #[.string s] w (ParsePost w (s.size+1) (.inl T)):=by
 have hmf:∀ (fn:Fn) (first cap:Array Value) (w:World),(Instr.makeFunc fn first cap).run Tryz.prog w=.ok (.func fn first cap) w:=fun _ _ _ _ => rfl
 have hb1:Below w.heap.size w (parW w s):=((Below.refl _ _).alloc (Nat.le_refl _) _).alloc (by simp) _
 have hbk:Blk (parW w s) (w.heap.size+1) 177 #[.string s,.int .i64 ((0:Nat):Int)]:=by
  have:=Blk.new (w.alloc (.cells #[.int .i64 (-1)] 3)) 177 #[.string s,.int .i64 0]
  simpa using this
 have hrd:Rd (parW w s) (w.heap.size+1) s (blOf s):=⟨0,hbk,by omega,rfl⟩
 have hab:Blk (parW w s) w.heap.size 3 #[.int .i64 (-1)]:=(Blk.new w 3 #[.int .i64 (-1)]).alloc _
 have h6:7 < w.heap.size+1:=by have:=hl.size; omega
 have HRD:=Lib.hid hrd
 have HAB:=Lib.hid hab
 have HB1:=Lib.hid hb1
 have HL1:=Lib.hid (hl.later hb1)
 have HP:=Lib.hid hp
 have hsl:=space_len (blOf s)
 have hbl:=blOf_len s
 have hbel:∀ (W:World),(parW w s).grownBy W (some (w.heap.size+1)) → Below w.heap.size w W:=fun W hg => HB1.out.trans ⟨hg.os,hg.tape,hg.output,hg.size,fun i hi => hg.block i (by simp; omega) (by intro e; injection e with e; omega)⟩
 have HBEL:=Lib.hid hbel
 clear hbel
 clear hb1 hbk hrd hab hl hp
 go_enter_defers Tryz.func102,Tryz.ntmps102
 go_wp2_with fail
 refine (f_space (w.heap.size+1) s (blOf s) _ HRD.out hs).mono ?_
 rintro e w2 ⟨rfl,hrd2,hg2⟩
 have HRD2:=Lib.hid hrd2
 have HL2:=Lib.hid (HL1.out.rb hg2 h6)
 have hab2:=Blk.grown' HAB.out hg2 (by intro e; injection e with e; omega)
 have HAB2:=Lib.hid hab2
 have HG2:=Lib.hid hg2
 have hs2:w.heap.size+2 ≤ w2.heap.size:=by have:=hg2.size; simp at this; omega
 clear hrd2 hg2 hab2
 go_wp2_with fail
 refine (f_condition (s.size+1) (w.heap.size+1) s _ _ HRD2.out (by omega) h6 hs HL2.out).mono ?_
 rw [HP.out]
 rintro e w3 ⟨hg3,v,rfl,hrd3,ht3⟩
 have hab3:=Blk.grown' HAB2.out hg3 (by intro e; injection e with e; omega)
 have c3:=(hab3.cell 0).trans (show _=some (Value.int .i64 (-1)) from rfl)
 have f3:=hab3.frozen 0
 have HB3:=Lib.hid (HBEL.out w3 (HG2.out.trans hg3))
 have r3:=(hrd3.pos.1.cell 1).trans (show _=some (Value.int .i64 (s.size:Int)) from rfl)
 have HT3:=Lib.hid ht3
 obtain ⟨vb,rfl,hvb⟩:=ht3.ptr
 clear hg3 hrd3 ht3
 have hns:¬ (s.size:Int) < (s.size:Int):=by omega
 have c3d:w3.drew.cell? ⟨w.heap.size,0,none⟩=some (.int .i64 (-1)):=c3
 have f3d:w3.drew.frozen? ⟨w.heap.size,0,none⟩=false:=f3
 go_wp2_with fail
 go_region
 all_goals
  go_wp2_with fail
  refine leaves_cons (f:=127) (args:=#[.pointer (some ⟨w.heap.size,0,none⟩)]) (by simp) (by simp [go_sem]) ?_
  refine (catch_idle ⟨w.heap.size,0,none⟩ _).mono ?_
  rintro e u' w'' ⟨rfl,rfl,rfl⟩
  have hk3:((w3.setCell ⟨w.heap.size,0,none⟩ (.int .i64 (-1))).drew).cell? ⟨w.heap.size,0,none⟩=some (.int .i64 (-1)):=World.cell?_setCell_same _ _ _ c3
  have hfin:Below w.heap.size w ((w3.setCell ⟨w.heap.size,0,none⟩ (.int .i64 (-1))).drew):=(HB3.out.setCell (Nat.le_refl _) _).drew
  have htr:TreeZ ((w3.setCell ⟨w.heap.size,0,none⟩ (.int .i64 (-1))).drew) (NewS w ((w3.setCell ⟨w.heap.size,0,none⟩ (.int .i64 (-1))).drew)) (s.size+1) (.pointer (some ⟨vb,0,none⟩)) T:=by
   refine (HT3.out.keep (w':=(w3.setCell ⟨w.heap.size,0,none⟩ (.int .i64 (-1))).drew) (fun b hb => Below.heap_setCell w3 ⟨w.heap.size,0,none⟩ _ b ?_)).mono fun b hb => ⟨?_,?_⟩
   ·have:=hb.1; show b ≠ w.heap.size; omega
   ·have:=hb.1; omega
   ·have:=hb.2; show b < (w3.setCell ⟨w.heap.size,0,none⟩ (.int .i64 (-1))).heap.size; simpa [World.setCell] using this
  simp [Leaves,settle,results,Tryz.results102,go_sem,c3]
  exact ⟨hfin,_,rfl,htr⟩
theorem f_parse (s : ByteArray) (w : World) (hs : s.size ≤ 100000) (hl : ParOk w) :
  Calls Tryz.prog 102 #[.string s] w (ParsePost w (s.size+1) (parseF (blOf s))):=by
 have hbl:=blOf_len s
 rcases hp:PF (s.size+1) .cond (spaceB (blOf s)) with ⟨xs,q⟩ | q
 ·obtain ⟨T,rfl⟩:=(PF_len _ _ _ _ _ hp).2 rfl
  cases q with
  | nil =>
   have e:parseF (blOf s)=.inl T:=by unfold parseF; rw [hbl,hp]
   rw [e]; exact f_parse_ok s T w hs hl hp
  | cons c q =>
   have e:parseF (blOf s)=.inr (posR s (c :: q)):=by unfold parseF; rw [hbl,hp]; rfl
   rw [e]; exact f_parse_rest s (c :: q) T w hs hl hp (by simp)
 ·have e:parseF (blOf s)=.inr (posR s q):=by unfold parseF; rw [hbl,hp]; rfl
  rw [e]; exact f_parse_bad s q w hs hl hp
theorem flatA_len_of {g : Nat → Tree → List Trm} (hg : ∀ a b T,(g a T).length = (g b T).length) : ∀ (xs : List Tree) (a b : Nat),(flatA g a xs).2.length = (flatA g b xs).2.length := by
 intro xs
 induction xs with
 | nil => intro a b; rfl
 | cons x xs ih => intro a b; simp only [flatA,List.length_append]; rw [hg a b x,ih _ (b+(g b x).length)]
theorem flatT_len_at : ∀ (d a b : Nat) (T : Tree),(flatT d a T).length = (flatT d b T).length := by
 intro d
 induction d with
 | zero => intro a b T; rfl
 | succ d ih => intro a b T; obtain ⟨t,xs⟩:=T; simp only [flatT,List.length_cons]; rw [flatA_len_of ih xs (a+1) (b+1)]
def nA (d : Nat) (xs : List Tree) : Nat := (flatA (flatT d) 0 xs).2.length
theorem nA_at (d a : Nat) (xs : List Tree) : (flatA (flatT d) a xs).2.length = nA d xs := flatA_len_of (flatT_len_at d) xs a 0
theorem nA_cons (d : Nat) (x : Tree) (xs : List Tree) : nA d (x :: xs) = (flatT d 0 x).length + nA d xs := by
 show (flatT d 0 x ++ (flatA (flatT d) (0+(flatT d 0 x).length) xs).2).length=_
 rw [List.length_append,nA_at]
theorem nA_app (d : Nat) (xs ys : List Tree) : nA d (xs ++ ys) = nA d xs + nA d ys := by
 induction xs with
 | nil => show nA d ys=0+nA d ys; omega
 | cons x xs ih => rw [List.cons_append,nA_cons,nA_cons,ih]; omega
theorem nA_node (d : Nat) (t : Trm) (xs : List Tree) : nA (d + 1) [.node t xs] = 1 + nA d xs := by
 rw [nA_cons]; simp only [flatT,List.length_cons]; rw [nA_at]; show _+1+0=_; omega
theorem nA_leaf (d : Nat) (t : Trm) : nA d [.node t []] ≤ 1 := by
 cases d with
 | zero => show ([] : List Trm).length ≤ 1; simp
 | succ d => rw [nA_node]; show 1+0 ≤ 1; omega
def Md.acc : Md → List Tree
 | .more a => a
 | _ => []
theorem PF_terms : ∀ (f : Nat) (m : Md) (r : List UInt8) (xs : List Tree) (q : List UInt8),PF f m r = .ok xs q → ∀ d,nA d xs + q.length ≤ r.length + nA d m.acc := by
 intro f
 induction f with
 | zero => intro m r xs q h; simp [PF] at h
 | succ f ih =>
  intro m r xs q h d
  cases m with
  | cond =>
   simp only [PF] at h
   have h0:nA d (Md.acc .cond)=0:=rfl
   split at h
   ·cases h
   ·rename_i w r1 ht
    have l1:=take_len ht
    split at h
    ·split at h
     ·cases h
     ·rename_i ys q' ha
      injection h with h1 h2; subst h1; subst h2
      cases d with
      | zero =>
       have:=(PF_len _ _ _ _ _ ha).1
       have h3:nA 0 [Tree.node (mkT (kindB w) 0 0 E0 E0) ys]=0:=rfl
       omega
      | succ d =>
       have:=ih _ _ _ _ ha d
       have h3:nA d (Md.acc .args)=0:=rfl
       rw [nA_node]
       omega
    ·split at h
     ·split at h
      ·cases h
      ·rename_i n q' hn
       injection h with h1 h2; subst h1; subst h2
       have:=num_len hn
       have:=nA_leaf d (mkT (kindB w) n 0 E0 E0)
       omega
     ·split at h
      ·split at h
       ·cases h
       ·rename_i y r2 hy
        split at h
        ·cases h
        ·rename_i o r3 ho
         split at h
         ·cases h
         ·rename_i n q' hn
          injection h with h1 h2; subst h1; subst h2
          have a1:=num_len hy
          have a2:=take_len ho
          have a3:=num_len hn
          have:=nA_leaf d (mkT 5 n y E0 E0)
          omega
      ·split at h
       ·split at h
        ·cases h
        ·rename_i fd r2 h1'
         split at h
         ·cases h
         ·rename_i tx r3 h2'
          split at h
          ·cases h
          ·rename_i o r4 h3'
           split at h
           ·cases h
           ·rename_i n q' hn
            injection h with h1 h2; subst h1; subst h2
            have a1:=take_len h1'
            have a2:=take_len h2'
            have a3:=take_len h3'
            have a4:=num_len hn
            have:=nA_leaf d (mkT 7 n 0 (bsOf fd) (bsOf ((tx.drop 1).take (tx.length - 2))))
            omega
       ·injection h with h1 h2; subst h1; subst h2
        have:=nA_leaf d (mkT (kindB w) 0 0 E0 E0)
        omega
  | args =>
   simp only [PF] at h
   have h0:nA d (Md.acc .args)=0:=rfl
   have hc:nA d (Md.acc .cond)=0:=rfl
   split at h
   ·cases h
   ·rename_i o r1 h1
    split at h
    ·cases h
    ·rename_i xs' r2 h2
     split at h
     ·cases h
     ·rename_i o2 r3 h3
      split at h
      ·cases h
      ·rename_i ys r4 h4
       have a1:=take_len h1
       have a2:=ih _ _ _ _ h2 d
       have a3:=take_len h3
       have a4:=ih _ _ _ _ h4 d
       have a5:=ih _ _ _ _ h d
       have a6:nA d (Md.acc (.more (xs' ++ ys)))=nA d xs' + nA d ys:=nA_app d xs' ys
       omega
  | more acc =>
   simp only [PF] at h
   have h0:nA d (Md.acc (.more acc))=nA d acc:=rfl
   have hc:nA d (Md.acc .cond)=0:=rfl
   split at h
   ·split at h
    ·cases h
    ·rename_i o r1 h1
     split at h
     ·cases h
     ·rename_i xs' r2 h2
      have a1:=take_len h1
      have a2:=ih _ _ _ _ h2 d
      have a5:=ih _ _ _ _ h d
      have a6:nA d (Md.acc (.more (acc ++ xs')))=nA d acc+nA d xs':=nA_app d acc xs'
      omega
   ·split at h
    ·cases h
    ·rename_i o r1 h1
     injection h with h1' h2'; subst h1'; subst h2'
     have:=take_len h1
     omega
theorem parseF_terms {s : List UInt8} {T : Tree} (h : parseF s = .inl T) (d a : Nat) : (flatT d a T).length ≤ s.length := by
 unfold parseF at h
 split at h
 ·cases h
 ·rename_i T' ys hp
  injection h with h5
  subst h5
  have h1:=PF_terms _ _ _ _ _ hp d
  obtain ⟨T2,e2⟩:=(PF_len _ _ _ _ _ hp).2 rfl
  injection e2 with e3 e4
  subst e4
  have h2:nA d (Md.acc .cond)=0:=rfl
  have h3:=space_len s
  have h4:nA d [T']=(flatT d 0 T').length:=by rw [nA_cons]; rfl
  have h6:([] : List UInt8).length=0:=rfl
  rw [flatT_len_at d a 0]; omega
 ·cases h
def Tm (N : Nat) : Nat → Tree → Prop
 | 0,_ => True
 | d+1,.node t xs => t.field.size ≤ N ∧ t.text.size ≤ N ∧ t.args = [] ∧ xs.length ≤ N ∧ ∀ x ∈ xs,Tm N d x
theorem take_word {p : List UInt8 → Bool} {q w r : List UInt8} (h : takeB p q = some (w,r)) : w.length ≤ q.length := by
 obtain ⟨h1,rfl,_,rfl⟩:=take_sp (a:=[]) h
 exact word_len q
theorem Tm_leaf {N : Nat} {t : Trm} (h1 : t.field.size ≤ N) (h2 : t.text.size ≤ N) (h3 : t.args = []) (d : Nat) : Tm N d (.node t []) := by
 cases d with
 | zero => trivial
 | succ d => exact ⟨h1,h2,h3,Nat.zero_le _,fun x hx => by cases hx⟩
theorem E0_le (N : Nat) : E0.size ≤ N := Nat.zero_le _
theorem one_leaf {N d : Nat} {t : Trm} (h1 : t.field.size ≤ N) (h2 : t.text.size ≤ N) (h3 : t.args = []) : ∀ x ∈ [Tree.node t []],Tm N d x := by
 intro x hx
 simp at hx; subst hx
 exact Tm_leaf h1 h2 h3 d
theorem PF_tame (N : Nat) : ∀ (f : Nat) (m : Md) (r : List UInt8) (xs : List Tree) (q : List UInt8),PF f m r = .ok xs q → r.length ≤ N → xs.length + q.length ≤ r.length + m.acc.length ∧ ∀ d,(∀ x ∈ m.acc,Tm N d x) → ∀ x ∈ xs,Tm N d x := by
 intro f
 induction f with
 | zero => intro m r xs q h; simp [PF] at h
 | succ f ih =>
  intro m r xs q h hN
  cases m with
  | cond =>
   simp only [PF] at h
   have h0:(Md.acc .cond).length=0:=rfl
   split at h
   ·cases h
   ·rename_i w r1 ht
    have l1:=take_len ht
    split at h
    ·split at h
     ·cases h
     ·rename_i ys q' ha
      injection h with h1 h2; subst h1; subst h2
      have a1:=ih _ _ _ _ ha (by omega)
      have a2:(Md.acc .args).length=0:=rfl
      have a3:=(PF_len _ _ _ _ _ ha).1
      refine ⟨by simp; omega,fun d _ x hx => ?_⟩
      simp at hx; subst hx
      cases d with
      | zero => trivial
      | succ d => exact ⟨E0_le N,E0_le N,rfl,by omega,a1.2 d (fun x hx => by cases hx)⟩
    ·split at h
     ·split at h
      ·cases h
      ·rename_i n q' hn
       injection h with h1 h2; subst h1; subst h2
       have:=num_len hn
       exact ⟨by simp; omega,fun d _ => one_leaf (E0_le N) (E0_le N) rfl⟩
     ·split at h
      ·split at h
       ·cases h
       ·rename_i y r2 hy
        split at h
        ·cases h
        ·rename_i o r3 ho
         split at h
         ·cases h
         ·rename_i n q' hn
          injection h with h1 h2; subst h1; subst h2
          have a1:=num_len hy
          have a2:=take_len ho
          have a3:=num_len hn
          exact ⟨by simp; omega,fun d _ => one_leaf (E0_le N) (E0_le N) rfl⟩
      ·split at h
       ·split at h
        ·cases h
        ·rename_i fd r2 h1'
         split at h
         ·cases h
         ·rename_i tx r3 h2'
          split at h
          ·cases h
          ·rename_i o r4 h3'
           split at h
           ·cases h
           ·rename_i n q' hn
            injection h with h1 h2; subst h1; subst h2
            have a1:=take_len h1'
            have a2:=take_len h2'
            have a3:=take_len h3'
            have a4:=num_len hn
            have b1:=take_word h1'
            have b2:=take_word h2'
            refine ⟨by simp; omega,fun d _ => one_leaf ?_ ?_ rfl⟩
            ·show (bsOf fd).size ≤ N; rw [bsOf_data']; omega
            ·show (bsOf ((tx.drop 1).take (tx.length - 2))).size ≤ N; rw [bsOf_data',List.length_take]; omega
       ·injection h with h1 h2; subst h1; subst h2
        exact ⟨by simp; omega,fun d _ => one_leaf (E0_le N) (E0_le N) rfl⟩
  | args =>
   simp only [PF] at h
   have h0:(Md.acc .args).length=0:=rfl
   have hc:(Md.acc .cond).length=0:=rfl
   split at h
   ·cases h
   ·rename_i o r1 h1
    split at h
    ·cases h
    ·rename_i xs' r2 h2
     split at h
     ·cases h
     ·rename_i o2 r3 h3
      split at h
      ·cases h
      ·rename_i ys r4 h4
       have a1:=take_len h1
       have l2:=(PF_len _ _ _ _ _ h2).1
       have a2:=ih _ _ _ _ h2 (by omega)
       have a3:=take_len h3
       have l4:=(PF_len _ _ _ _ _ h4).1
       have a4:=ih _ _ _ _ h4 (by omega)
       have a5:=ih _ _ _ _ h (by omega)
       have a6:(Md.acc (.more (xs' ++ ys))).length=xs'.length+ys.length:=List.length_append
       refine ⟨by omega,fun d _ => a5.2 d fun x hx => ?_⟩
       rcases List.mem_append.1 (show x ∈ xs' ++ ys from hx) with hx | hx
       ·exact a2.2 d (fun x hx => by cases hx) x hx
       ·exact a4.2 d (fun x hx => by cases hx) x hx
  | more acc =>
   simp only [PF] at h
   have h0:(Md.acc (.more acc)).length=acc.length:=rfl
   have hc:(Md.acc .cond).length=0:=rfl
   split at h
   ·split at h
    ·cases h
    ·rename_i o r1 h1
     split at h
     ·cases h
     ·rename_i xs' r2 h2
      have a1:=take_len h1
      have l2:=(PF_len _ _ _ _ _ h2).1
      have a2:=ih _ _ _ _ h2 (by omega)
      have a5:=ih _ _ _ _ h (by omega)
      have a6:(Md.acc (.more (acc ++ xs'))).length=acc.length+xs'.length:=List.length_append
      refine ⟨by omega,fun d hd => a5.2 d fun x hx => ?_⟩
      rcases List.mem_append.1 (show x ∈ acc ++ xs' from hx) with hx | hx
      ·exact hd x hx
      ·exact a2.2 d (fun x hx => by cases hx) x hx
   ·split at h
    ·cases h
    ·rename_i o r1 h1
     injection h with h1' h2'; subst h1'; subst h2'
     have:=take_len h1
     exact ⟨by omega,fun d hd => hd⟩
def TrmLe (N : Nat) (t : Trm) : Prop := t.field.size ≤ N ∧ t.text.size ≤ N ∧ t.args.length ≤ N
theorem flatA_one_len (g : Nat → Tree → List Trm) : ∀ (xs : List Tree) (a : Nat),(flatA g a xs).1.length = xs.length := by
 intro xs
 induction xs with
 | nil => intro a; rfl
 | cons x xs ih => intro a; simp [flatA,ih]
theorem flat_tame (N : Nat) : ∀ (d a : Nat) (T : Tree),Tm N d T → ∀ t ∈ flatT d a T,TrmLe N t := by
 intro d
 induction d with
 | zero => intro a T _ t ht; cases ht
 | succ d ih =>
  intro a T hT
  obtain ⟨t,xs⟩:=T
  obtain ⟨h1,h2,h3,h4,h5⟩:=hT
  have hA:∀ (ys:List Tree) (b:Nat),(∀ x ∈ ys,Tm N d x) → ∀ u ∈ (flatA (flatT d) b ys).2,TrmLe N u:=by
   intro ys
   induction ys with
   | nil => intro b _ u hu; cases hu
   | cons y ys ihy =>
    intro b hy u hu
    rcases List.mem_append.1 (show u ∈ flatT d b y ++ _ from hu) with hu | hu
    ·exact ih b y (hy y (by simp)) u hu
    ·exact ihy _ (fun x hx => hy x (by simp [hx])) u hu
  intro u hu
  simp only [flatT,List.mem_cons] at hu
  rcases hu with rfl | hu
  ·refine ⟨h1,h2,?_⟩
   show (t.args ++ _).length ≤ N
   rw [h3,List.nil_append,flatA_one_len]; exact h4
  ·exact hA xs _ h5 u hu
theorem parseF_tame {s : List UInt8} {T : Tree} (h : parseF s = .inl T) (d a : Nat) : ∀ t ∈ flatT d a T,TrmLe s.length t := by
 unfold parseF at h
 split at h
 ·cases h
 ·rename_i T' ys hp
  injection h with h5
  subst h5
  have h3:=space_len s
  have h1:=(PF_tame s.length _ _ _ _ _ hp h3).2 d (fun x hx => by cases hx) T' (by simp)
  exact flat_tame _ d a T' h1
 ·cases h
def parseC (s : List UInt8) : List Trm × Int × Int := if 4096 < s.length then ([],0,3) else match parseF s with
 | .inr k => ([],(k:Int),12)
 | .inl T => if rightB (flatT (s.length+1) 0 T) then (flatT (s.length+1) 0 T,0,0) else ([],0,14)
def ParseEnd (w : World) (L : List Trm) (p n : Int) (e : Ending) (w' : World) : Prop := ∃ v,e = .returned (.tuple #[.agg #[v],.int .i64 p,.int .i64 n]) ∧ TermsAt w' (fun b => w.heap.size ≤ b ∧ b < w'.heap.size) v L ∧ Below w.heap.size w w'
theorem terms_none (w : World) (S : Nat → Prop) : TermsAt w S (.slice none 0 0) [] := ⟨none,0,0,rfl,rfl,Nat.le_refl _,fun h => absurd h (by omega)⟩
set_option maxRecDepth 100000 in
set_option maxHeartbeats 400000 in
theorem f_Parse_long (s : ByteArray) (w : World) (h : 4096 < s.size) (hs : s.size ≤ 100000000) :
  Calls Tryz.prog 63 #[.string s] w (ParseEnd w [] 0 3):=by
 have hb1:Below w.heap.size w (w.alloc (.cells #[.slice none 0 0] 26)):=(Below.refl _ _).alloc (Nat.le_refl _) _
 have z1:(4096:Int) < (s.size:Int):=by omega
 have HB:=Lib.hid hb1
 clear hb1
 go_enter Tryz.func63,Tryz.ntmps63
 go_wp2_with fail
 refine bodyPost_ret (v:=.tuple #[.agg #[.slice none 0 0],.int .i64 0,.int .i64 3]) ?_ rfl ?_
 ·simp [results,Tryz.results63,go_sem]
 ·exact ⟨_,rfl,terms_none _ _,HB.out⟩
set_option maxRecDepth 100000 in
set_option maxHeartbeats 400000 in
theorem f_Parse_bad (s : ByteArray) (k : Nat) (w : World) (h : s.size ≤ 4096) (hl : ParOk w) (hp : parseF (blOf s) = .inr k) :
  Calls Tryz.prog 63 #[.string s] w (ParseEnd w [] (k:Int) 12):=by
 have hb1:Below w.heap.size w (w.alloc (.cells #[.slice none 0 0] 26)):=(Below.refl _ _).alloc (Nat.le_refl _) _
 have z1:¬ (4096:Int) < (s.size:Int):=by omega
 have HB:=Lib.hid hb1
 have HL:=Lib.hid (hl.later hb1)
 have HP:=Lib.hid hp
 clear hb1 hl hp
 go_enter Tryz.func63,Tryz.ntmps63
 go_wp2_with fail
 refine (f_parse s _ (by omega) HL.out).mono ?_
 rintro e w2 ⟨hb2,h2⟩
 rw [HP.out] at h2
 obtain ⟨v,rfl⟩:=h2
 have hb3:=HB.out.trans (hb2.mono (by simp))
 have hbk:Blk w2 w.heap.size 26 #[.slice none 0 0]:=(Blk.new w 26 #[.slice none 0 0]).below' hb2 (by simp)
 have hc:=(hbk.cell 0).trans (show _=some (Value.slice none 0 0) from rfl)
 have hf:=hbk.frozen 0
 have HB3:=Lib.hid hb3
 have z2:(0:Int) ≤ (k:Int):=by omega
 clear hb2 hb3 hbk
 go_wp2_with fail
 refine bodyPost_ret (v:=.tuple #[.agg #[.slice none 0 0],.int .i64 (k:Int),.int .i64 12]) ?_ rfl ?_
 ·simp [results,Tryz.results63,go_sem,hc]
 ·exact ⟨_,rfl,terms_none _ _,HB3.out.setCell (Nat.le_refl _) _⟩
set_option maxRecDepth 100000 in
set_option maxHeartbeats 400000 in
theorem f_Parse_ok (s : ByteArray) (T : Tree) (L : List Trm) (rb : Bool) (Lo : List Trm) (n : Int) (w : World) (h : s.size ≤ 4096) (hl : ParOk w) (hp : parseF (blOf s) = .inl T) (hL : flatT (s.size + 1) 0 T = L) (hr : rightB L = rb) (hE : Lo = (if rb then L else []) ∧ n = (if rb then 0 else 14)) :
  Calls Tryz.prog 63 #[.string s] w (ParseEnd w Lo 0 n):=by
 have hlen:L.length ≤ 4096:=by
  have h1:=parseF_terms hp (s.size+1) 0
  have h2:=blOf_len s
  rw [hL] at h1; omega
 have hok:∀ t ∈ L,TrmOk t:=by
  intro t ht
  have h2:=blOf_len s
  obtain ⟨a1,a2,a3⟩:=parseF_tame hp (s.size+1) 0 t (by rw [hL]; exact ht)
  exact ⟨by omega,by omega,by omega⟩
 have hb1:Below w.heap.size w (w.alloc (.cells #[.slice none 0 0] 26)):=(Below.refl _ _).alloc (Nat.le_refl _) _
 have z1:¬ (4096:Int) < (s.size:Int):=by omega
 have HB:=Lib.hid hb1
 have HL:=Lib.hid (hl.later hb1)
 have HP:=Lib.hid hp
 have HFL:=Lib.hid hL
 have HR:=Lib.hid hr
 have HOK:=Lib.hid hok
 have HE:=Lib.hid hE
 clear hb1 hl hp hL hr hok hE
 go_enter Tryz.func63,Tryz.ntmps63
 go_wp2_with fail
 refine (f_parse s _ (by omega) HL.out).mono ?_
 rintro e w2 ⟨hb2,h2⟩
 rw [HP.out] at h2
 obtain ⟨v,rfl,ht⟩:=h2
 have hb3:=HB.out.trans (hb2.mono (by simp))
 have hbk:Blk w2 w.heap.size 26 #[.slice none 0 0]:=(Blk.new w 26 #[.slice none 0 0]).below' hb2 (by simp)
 have HBK:=Lib.hid hbk
 have hs2:w.heap.size+1 ≤ w2.heap.size:=by have:=hb2.size; simpa using this
 have HB3:=Lib.hid hb3
 have HT:=Lib.hid ht
 obtain ⟨vb,rfl,hvb⟩:=ht.ptr
 clear hb2 hb3 hbk ht
 go_wp2_with fail
 refine (f_flat (s.size+1) T _ _ [] (fun _ => undef) w2.heap.size _ w2 HT.out (fun b hb => hb.2) (Nat.le_refl _) (OwnTs.nil _ _ _) (by rw [show ([] : List Trm).length=0 from rfl,HFL.out]; omega)).mono ?_
 rintro e w3 ⟨v',us',rfl,ho,hb4⟩
 rw [show ([] : List Trm) ++ flatT (s.size+1) ([] : List Trm).length T=L from HFL.out] at ho
 have htm:=ho.terms
 obtain ⟨A,c,rfl⟩:=own_slice ho.row
 have hs3:=hb4.size
 have HB5:=Lib.hid (HB3.out.trans (hb4.mono (by omega)))
 have HBK3:=Lib.hid (HBK.out.below' hb4 (by omega))
 have HTM:=Lib.hid htm
 clear ho htm hb4
 go_wp2_with fail
 refine (f_Right _ L w3.heap.size _ ((HTM.out.keep (fun b hb => Below.heap_alloc w3 _ b hb.2)).mono (fun b hb => hb.2)) (by simp) (by omega) HOK.out).mono ?_
 rintro e w4 ⟨rfl,hb6⟩
 rw [HR.out]
 have hbk4:=(HBK3.out.alloc (.cells #[.slice A L.length c] 26)).below' hb6 (by simp; omega)
 have hbn4:Blk w4 w3.heap.size 26 #[.slice A L.length c]:=(Blk.new w3 26 #[.slice A L.length c]).below' hb6 (by simp)
 have hc:=(hbk4.cell 0).trans (show _=some (Value.slice none 0 0) from rfl)
 have hf:=hbk4.frozen 0
 have hc7:=(hbn4.cell 0).trans (show _=some (Value.slice A L.length c) from rfl)
 have hs4:=hb6.size
 simp at hs4
 have HB7:=Lib.hid (HB5.out.trans (((Below.refl w3.heap.size w3).alloc (Nat.le_refl _) (.cells #[.slice A L.length c] 26)).trans (hb6.mono (by simp))|>.mono (by omega)))
 have HTM4:=Lib.hid ((HTM.out.keep (w':=w4) (fun b hb => ((hb6.block b (by have:=hb.2; simp; omega)).trans (Below.heap_alloc w3 _ b hb.2)))))
 clear hb6 hbk4 hbn4
 cases rb
 ·have HE2:=Lib.hid (show Lo = [] ∧ n=14 from HE.out)
  go_wp2_with fail
  refine bodyPost_ret (v:=.tuple #[.agg #[.slice none 0 0],.int .i64 0,.int .i64 14]) ?_ rfl ?_
  ·simp [results,Tryz.results63,go_sem,hc]
  ·exact ⟨_,by rw [HE2.out.2],by rw [HE2.out.1]; exact terms_none _ _,HB7.out.setCell (Nat.le_refl _) _⟩
 ·have HE2:=Lib.hid (show Lo=L ∧ n=0 from HE.out)
  go_wp2_with fail
  refine bodyPost_ret (v:=.tuple #[.agg #[.slice A L.length c],.int .i64 0,.int .i64 0]) ?_ rfl ?_
  ·simp [results,Tryz.results63,go_sem,hc]
  ·have hsz:(w4.setCell ⟨w.heap.size,0,none⟩ (.slice A L.length c)).heap.size=w4.heap.size:=by simp [World.setCell]
   refine ⟨_,by rw [HE2.out.2],?_,HB7.out.setCell (Nat.le_refl _) _⟩
   rw [HE2.out.1]
   exact (HTM4.out.keep (fun b hb => Below.heap_setCell w4 ⟨w.heap.size,0,none⟩ _ b (by have:=hb.1; show b ≠ w.heap.size; omega))).mono fun b hb => ⟨by have:=hb.1; omega,by have:=hb.2; rw [hsz]; omega⟩
theorem f_Parse (s : ByteArray) (w : World) (hs : s.size ≤ 100000000) (hl : ParOk w) : Calls Tryz.prog 63 #[.string s] w (ParseEnd w (parseC (blOf s)).1 (parseC (blOf s)).2.1 (parseC (blOf s)).2.2) := by
 have h2:=blOf_len s
 unfold parseC
 split
 ·exact f_Parse_long s w (by omega) hs
 ·rcases hp:parseF (blOf s) with T | k
  ·have h3:=f_Parse_ok s T _ _ _ _ w (by omega) hl hp rfl rfl ⟨rfl,rfl⟩
   rw [← h2] at h3
   simp only
   split
   ·rename_i hr
    rw [hr] at h3; exact h3
   ·rename_i hr
    rw [Bool.not_eq_true] at hr
    rw [hr] at h3; exact h3
  ·exact f_Parse_bad s k w (by omega) hl hp
end Go.Proofs.YtgdngfdeeadlnaaGreatDoor
