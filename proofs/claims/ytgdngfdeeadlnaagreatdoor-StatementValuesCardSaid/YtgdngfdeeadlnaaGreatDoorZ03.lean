/- Contracts: names of fields; the words with which terms begin. And more. -/
import Derived.Test.YtgdngfdeeadlnaaGreatDoorZ02
import Derived.Test.YtgdngfdeeadlnaaGreatDoorShelfF
import Derived.Test.YtgdngfdeeadlnaaGreatDoorZ01
import Derived.Lib.Builder
import Derived.Lib.UnsafeStr
import Derived.Lib.FrozenHead2
import Derived.Lib.Repeat
import Derived.Test.YtgdngfdeeadlnaaGreatDoorShelf
import Derived.Deep.RegionHeld3
set_option linter.unusedVariables false
set_option linter.unusedSimpArgs false
namespace Go.Proofs.YtgdngfdeeadlnaaGreatDoor
open Go.RowKit Num
def BoolBel (b : Bool) (w : World) (e : Ending) (w' : World) : Prop := e = .returned (.bool b) ∧ Below w.heap.size w w'
theorem StrsAt'.below {w w' : World} {v : Value} {L : List (List UInt8)} (h : StrsAt' w v L) (hb : Below w.heap.size w w') : StrsAt' w' v L := by
 obtain ⟨g,off,n,c,h1,h2,h3,h4⟩:=h
 exact ⟨g,off,n,c,h1,h2,Nat.lt_of_lt_of_le h3 hb.size,fun k hk => (hb.cell (p:=⟨g,off+k,none⟩) h3).trans (h4 k hk)⟩
theorem blOf_len (s : ByteArray) : (blOf s).length = s.size := Array.length_toList
theorem blOf_get (s : ByteArray) (k : Nat) (h : k < s.size) : (blOf s).getD k 0 = s[k] := by
 rw [List.getD_eq_getElem?_getD,List.getElem?_eq_getElem (by rw [blOf_len]; exact h)]; rfl
theorem headD_get (l : List UInt8) : l.headD 0 = l.getD 0 0 := by cases l <;> rfl
theorem all_of {l : List UInt8} {p : UInt8 → Bool} (h : ∀ j,j < l.length → p (l.getD j 0) = true) : l.all p = true := by
 rw [List.all_eq_true]
 intro x hx
 obtain ⟨j,hj,rfl⟩:=List.getElem_of_mem hx
 have:=h j hj
 rwa [List.getD_eq_getElem?_getD,List.getElem?_eq_getElem hj] at this
theorem not_all_of {l : List UInt8} {p : UInt8 → Bool} {j : Nat} (hj : j < l.length) (h : p (l.getD j 0) = false) : l.all p = false := by
 rw [List.all_eq_false]
 refine ⟨l[j],List.getElem_mem hj,?_⟩
 rw [List.getD_eq_getElem?_getD,List.getElem?_eq_getElem hj] at h
 simpa using h
set_option maxRecDepth 100000 in
set_option maxHeartbeats 1000000 in
theorem f_Name (s : ByteArray) (w : World) (hs : s.size ≤ 4294967296) :
    Calls Tryz.prog 107 #[.string s] w (BoolBel (nameB (blOf s)) w):=by
  by_cases h0:s.size=0
  · have e:nameB (blOf s)=false:=by unfold nameB; rw [blOf_len]; simp [h0]
    obtain rfl:=(show s=⟨#[]⟩ from blOf_inj (List.eq_nil_of_length_eq_zero (by rw [blOf_len]; exact h0)))
    rw [e]
    clear e h0 hs
    go_enter Tryz.func107,Tryz.ntmps107
    go_wp2_with fail
    go_ret
    exact ⟨rfl,Below.refl _ _⟩
  · have z1:(s.toList == [])=false:=by
      rw [ByteArray.toList_eq]
      cases hl:s.data.toList with
      | nil => exact absurd (by rw [← blOf_len]; show s.data.toList.length=0; rw [hl]; rfl) h0
      | cons a r => rfl
    have z2:(!s.toList.isEmpty)=true:=by
      rw [ByteArray.toList_eq]
      cases hl:s.data.toList with
      | nil => exact absurd (by rw [← blOf_len]; show s.data.toList.length=0; rw [hl]; rfl) h0
      | cons a r => rfl
    have z3:¬ s.toList = []:=by simpa using z1
    have hpos:0 < s.size:=by omega
    by_cases h32:s.size ≤ 32
    · have g0:=blOf_get s 0 hpos
      by_cases hl:lowN (s[0]).toNat=true
      · by_cases hr:resB.contains (blOf s)=true
        · have e:nameB (blOf s)=false:=by unfold nameB; rw [hr]; simp
          have HE:=Lib.hid e
          have HR:=Lib.hid hr
          have HL:=Lib.hid hl
          clear e hr g0 hl h0
          go_enter Tryz.func107,Tryz.ntmps107
          go_wp2_with (first
            | (go_at_call 134; refine (f_letter _ _ (UInt8.toNat_lt _)).mono ?_; rintro e w' ⟨rfl,rfl⟩; rw [HL.out])
            | (go_at_call 135; refine (f_reserved _).mono ?_; rintro e w1 ⟨v,rfl,hv,hb⟩; have HV:=Lib.hid hv; clear hv)
            | (go_at_call 81; refine (s_Contains _ resB s _ (by first | exact HV.out | assumption) (by decide)).mono ?_; rintro e w' ⟨rfl,rfl⟩; rw [HR.out]))
          go_ret
          exact ⟨by rw [HE.out]; rfl,hb⟩
        · have hrf:resB.contains (blOf s)=false:=by simpa using hr
          have ht:nameB (blOf s)=(blOf s).all inWB:=by
            unfold nameB
            rw [hrf,headD_get,g0,lowB_n,hl,blOf_len]
            simp [h32]; omega
          have HT:=Lib.hid ht
          have HR:=Lib.hid hrf
          have HL:=Lib.hid hl
          clear ht hr hrf g0 hl h0
          go_enter Tryz.func107,Tryz.ntmps107
          go_wp2_with (first
            | (go_at_call 134; refine (f_letter _ _ (UInt8.toNat_lt _)).mono ?_; rintro e w' ⟨rfl,rfl⟩; rw [HL.out])
            | (go_at_call 135; refine (f_reserved _).mono ?_; rintro e w1 ⟨v,rfl,hv,hb⟩; have HV:=Lib.hid hv; clear hv)
            | (go_at_call 81; refine (s_Contains _ resB s _ (by first | exact HV.out | assumption) (by decide)).mono ?_; rintro e w' ⟨rfl,rfl⟩; rw [HR.out]))
          go_loop [3,24] (fun _ i => ∃ k:Nat,k ≤ s.size ∧ i=.int .i64 k ∧ ∀ j,j < k → inWB ((blOf s).getD j 0)=true) (fun _ i => s.size - (intOf i).toNat)
          case atStart => exact ⟨0,by omega,rfl,fun j hj => absurd hj (Nat.not_lt_zero _)⟩
          case round =>
            obtain ⟨k,hk,rfl,hne⟩:=hrel
            have HNE:=Lib.hid hne
            clear hne
            by_cases hlt:k < s.size
            · have gk:=blOf_get s k hlt
              have GK:=Lib.hid gk
              clear gk
              by_cases hi:inWN (s[k]).toNat=true
              · have HI:=Lib.hid hi
                clear hi
                go_wp2_with (go_at_call 136; refine (f_inWord _ _ (UInt8.toNat_lt _)).mono ?_; rintro e w' ⟨rfl,rfl⟩; rw [HI.out])
                go_round
                case rel => exact ⟨k+1,by omega,by go_num,fun j hj => by
                  rcases Nat.lt_or_ge j k with h | h
                  · exact HNE.out j h
                  · rw [show j=k by omega,GK.out,inWB_n]; exact HI.out⟩
                case measure => simp [intOf]; omega
              · have hi':inWN (s[k]).toNat=false:=by simpa using hi
                have HI:=Lib.hid hi'
                clear hi hi'
                go_wp2_with (go_at_call 136; refine (f_inWord _ _ (UInt8.toNat_lt _)).mono ?_; rintro e w' ⟨rfl,rfl⟩; rw [HI.out])
                go_ret
                refine ⟨?_,hb⟩
                rw [HT.out,not_all_of (j:=k) (by rw [blOf_len]; exact hlt) (by rw [GK.out,inWB_n]; exact HI.out)]
                rfl
            · have hkn:k=s.size:=by omega
              have hj0:¬ (k:Int) < (s.size:Int):=by omega
              have HKN:=Lib.hid hkn
              clear hkn
              go_wp2_with fail
              go_ret
              refine ⟨?_,hb⟩
              rw [HT.out,all_of (fun j hj => HNE.out j (by rw [blOf_len] at hj; rw [HKN.out]; exact hj))]
              rfl
      · have hl':lowN (s[0]).toNat=false:=by simpa using hl
        have e:nameB (blOf s)=false:=by unfold nameB; rw [headD_get,g0,lowB_n,hl']; simp
        have HE:=Lib.hid e
        have HL:=Lib.hid hl'
        clear e g0 hl hl' h0
        go_enter Tryz.func107,Tryz.ntmps107
        go_wp2_with (go_at_call 134; refine (f_letter _ _ (UInt8.toNat_lt _)).mono ?_; rintro e w' ⟨rfl,rfl⟩; rw [HL.out])
        go_ret
        exact ⟨by rw [HE.out]; rfl,Below.refl _ _⟩
    · have e:nameB (blOf s)=false:=by unfold nameB; rw [blOf_len]; simp [h32]
      have q32:(32:Int) < (s.size:Int):=by omega
      have HE:=Lib.hid e
      clear e h0
      go_enter Tryz.func107,Tryz.ntmps107
      go_wp2_with fail
      go_ret
      exact ⟨by rw [HE.out]; rfl,Below.refl _ _⟩
def IntBel (n : Int) (w : World) (e : Ending) (w' : World) : Prop := e = .returned (.int .i64 n) ∧ Below w.heap.size w w'
set_option maxHeartbeats 1000000 in
theorem f_kindOf (s : ByteArray) (w : World) :
  Calls Tryz.prog 159 #[.string s] w (IntBel (kindB (blOf s)) w):=by
 go_enter Tryz.func159,Tryz.ntmps159
 go_wp2_with (go_at_call 120; refine (f_names _).mono ?_; rintro e w1 ⟨v,rfl,hv,hb⟩; have HV:=Lib.hid hv; clear hv)
 refine (s_Index _ nmB s _ HV.out (by decide)).mono ?_
 rintro e w' ⟨rfl,rfl⟩
 go_wp2_with fail
 go_ret
 exact ⟨rfl,hb⟩
def SamePost (b : Bool) (w : World) (e : Ending) (w' : World) : Prop := e = .returned (.bool b) ∧ Below w.heap.size w w'
set_option maxRecDepth 100000 in
set_option maxHeartbeats 1000000 in
theorem f_same (wk wn wy : Int) (wf wt : ByteArray) (A : Option Addr) (m c : Nat) (a b : Nat) (k n y : Int) (f x : ByteArray) (w : World) (ha : a < w.heap.size) (hb : b < w.heap.size)
  (h0:w.cell? ⟨a,0,none⟩=some (.int .i64 k)) (h1:w.cell? ⟨b,1,none⟩=some (.int .i64 n)) (h2:w.cell? ⟨b,2,none⟩=some (.int .i64 y)) (h3:w.cell? ⟨b,3,none⟩=some (.string f)) (h4:w.cell? ⟨b,4,none⟩=some (.string x)) :
  Calls Tryz.prog 180 #[.agg #[.int .i64 wk,.int .i64 wn,.int .i64 wy,.string wf,.string wt,.slice A m c],.pointer (some ⟨a,0,none⟩),.pointer (some ⟨b,0,none⟩)] w (SamePost (decide (n=wn ∧ y=wy ∧ blOf f=blOf wf ∧ blOf x=blOf wt)) w):=by
 have na:a ≠ w.heap.size:=by omega
 have nb:b ≠ w.heap.size:=by omega
 by_cases e1:n=wn
 ·by_cases e2:y=wy
  ·by_cases e3:blOf f=blOf wf
   ·have q3:=seq_true (blOf_inj e3)
    by_cases e4:blOf x=blOf wt
    ·have q4:=seq_true (blOf_inj e4)
     have E:=Lib.hid (decide_eq_true (show n=wn ∧ y=wy ∧ blOf f=blOf wf ∧ blOf x=blOf wt from ⟨e1,e2,e3,e4⟩))
     have d1:(n == wn)=true:=by simpa using e1
     have d2:(y == wy)=true:=by simpa using e2
     clear e1 e2 e3 e4
     go_enter Tryz.func180,Tryz.ntmps180
     go_wp2_with fail
     go_ret
     exact ⟨by rw [E.out]; rfl,(Below.refl _ _).alloc (Nat.le_refl _) _⟩
    ·have q4:=seq_false e4
     have E:=Lib.hid (decide_eq_false (show ¬ (n=wn ∧ y=wy ∧ blOf f=blOf wf ∧ blOf x=blOf wt) from fun h => e4 h.2.2.2))
     have d1:(n == wn)=true:=by simpa using e1
     have d2:(y == wy)=true:=by simpa using e2
     clear e1 e2 e3 e4
     go_enter Tryz.func180,Tryz.ntmps180
     go_wp2_with fail
     go_ret
     exact ⟨by rw [E.out]; rfl,(Below.refl _ _).alloc (Nat.le_refl _) _⟩
   ·have q3:=seq_false e3
    have E:=Lib.hid (decide_eq_false (show ¬ (n=wn ∧ y=wy ∧ blOf f=blOf wf ∧ blOf x=blOf wt) from fun h => e3 h.2.2.1))
    have d1:(n == wn)=true:=by simpa using e1
    have d2:(y == wy)=true:=by simpa using e2
    clear e1 e2 e3
    go_enter Tryz.func180,Tryz.ntmps180
    go_wp2_with fail
    go_ret
    exact ⟨by rw [E.out]; rfl,(Below.refl _ _).alloc (Nat.le_refl _) _⟩
  ·have E:=Lib.hid (decide_eq_false (show ¬ (n=wn ∧ y=wy ∧ blOf f=blOf wf ∧ blOf x=blOf wt) from fun h => e2 h.2.1))
   have d1:(n == wn)=true:=by simpa using e1
   have d2:(y == wy)=false:=by simpa using e2
   clear e1 e2
   go_enter Tryz.func180,Tryz.ntmps180
   go_wp2_with fail
   go_ret
   exact ⟨by rw [E.out]; rfl,(Below.refl _ _).alloc (Nat.le_refl _) _⟩
 ·have E:=Lib.hid (decide_eq_false (show ¬ (n=wn ∧ y=wy ∧ blOf f=blOf wf ∧ blOf x=blOf wt) from fun h => e1 h.1))
  have d1:(n == wn)=false:=by simpa using e1
  clear e1
  go_enter Tryz.func180,Tryz.ntmps180
  go_wp2_with fail
  go_ret
  exact ⟨by rw [E.out]; rfl,(Below.refl _ _).alloc (Nat.le_refl _) _⟩
theorem size_nil (s : ByteArray) : (s.size = 0) = (blOf s = blOf E0) := by
 apply propext
 constructor
 ·intro h; exact List.eq_nil_of_length_eq_zero (by rw [blOf_len]; exact h)
 ·intro h; rw [← blOf_len,h]; rfl
theorem indexByte_has (l : List UInt8) (c : UInt8) : decide (0 ≤ Lib.indexByte l c) = l.contains c := by
 have key:∀ l:List UInt8,-1 ≤ Lib.indexByte l c ∧ (0 ≤ Lib.indexByte l c ↔ c ∈ l):=by
  intro l
  induction l with
  | nil => simp [Lib.indexByte]
  | cons x r ih =>
   unfold Lib.indexByte
   by_cases h:x=c
   ·rw [if_pos (by simpa using h)]; simp [h]
   ·rw [if_neg (by simpa using h)]
    have hc:¬ c=x:=fun e => h e.symm
    rw [List.mem_cons,or_iff_right hc,← ih.2]
    split
    ·rename_i h1
     have h2:Lib.indexByte r c = -1:=by simpa using h1
     omega
    ·rename_i h1
     have h2:¬ Lib.indexByte r c = -1:=by simpa using h1
     have:=ih.1
     omega
 rw [Bool.eq_iff_iff,decide_eq_true_eq,(key l).2]; simp
def sameD (n wn y wy : Int) (f x : ByteArray) : Bool := decide (n = wn ∧ y = wy ∧ blOf f = blOf E0 ∧ blOf x = blOf E0)
theorem c_same (wn wy k n y : Int) (f x : ByteArray) (A : Option Addr) (m c : Nat) (w : World) :
  Calls Tryz.prog 180 #[.agg #[.int .i64 0,.int .i64 wn,.int .i64 wy,.string ⟨#[]⟩,.string ⟨#[]⟩,.slice none 0 0],.pointer (some ⟨w.heap.size,0,none⟩),.pointer (some ⟨w.heap.size+1,0,none⟩)]
   ((w.alloc (.cells #[.int .i64 k,.int .i64 n,.int .i64 y,.string f,.string x,.slice A m c] 75)).alloc (.cells #[.int .i64 k,.int .i64 n,.int .i64 y,.string f,.string x,.slice none 0 0] 75))
   fun e w' => e=.returned (.bool (sameD n wn y wy f x)) ∧ Below w.heap.size w w':=by
 refine (f_same 0 wn wy ⟨#[]⟩ ⟨#[]⟩ none 0 0 w.heap.size (w.heap.size+1) k n y f x _ (by simp; omega) (by simp) ?_ ?_ ?_ ?_ ?_).mono ?_
 ·go_simp
 ·go_simp
 ·go_simp
 ·go_simp
 ·go_simp
 ·rintro e w' ⟨rfl,hb⟩
  exact ⟨rfl,(((Below.refl _ _).alloc (Nat.le_refl _) _).alloc (by simp) _).trans (hb.mono (by simp; omega))⟩
theorem bcellx {B : Nat} {W w1 : World} (hb : Below B W w1) : (∀ b o,b < B → w1.cell? ⟨b,o,none⟩ = W.cell? ⟨b,o,none⟩) ∧ (∀ b o,b < B → w1.frozen? ⟨b,o,none⟩ = W.frozen? ⟨b,o,none⟩) :=
 ⟨fun b o h => hb.cell (p:=⟨b,o,none⟩) h,fun b o h => hb.frozen (p:=⟨b,o,none⟩) h⟩
set_option maxRecDepth 100000 in
set_option maxHeartbeats 4000000 in
theorem f_bare (k n y : Int) (f x : ByteArray) (A : Option Addr) (m c : Nat) (args : List Int) (w : World) (hf : f.size ≤ 4294967296) (hx : x.size ≤ 4294967296) :
    Calls Tryz.prog 153 #[.agg #[.int .i64 k,.int .i64 n,.int .i64 y,.string f,.string x,.slice A m c]] w (SamePost (bareB ⟨k,n,y,f,x,args⟩) w):=by
  have hsb:Below w.heap.size w ((w.alloc (.cells #[.int .i64 k,.int .i64 n,.int .i64 y,.string f,.string x,.slice A m c] 75)).alloc (.cells #[.int .i64 k,.int .i64 n,.int .i64 y,.string f,.string x,.slice none 0 0] 75)):=((Below.refl _ _).alloc (Nat.le_refl _) _).alloc (by simp) _
  have HSB:=Lib.hid hsb
  clear hsb
  by_cases c1:k=1 ∨ k=2 ∨ k=6 ∨ k=8
  · have e:bareB ⟨k,n,y,f,x,args⟩=sameD n 0 y 0 f x:=by
      unfold bareB sameD
      simp only
      rw [if_pos c1]
      simp only [size_nil]
    have E:=Lib.hid e
    clear e
    rcases c1 with rfl | rfl | rfl | rfl
    all_goals
      go_enter Tryz.func153,Tryz.ntmps153
      go_wp2_with (first
        | (go_at_call 181; refine (f_between _ _ _).mono ?_; rintro e w' ⟨rfl,rfl⟩)
        | (refine (c_same _ _ _ _ _ _ _ _ _ _ _).mono ?_; rintro e w1 ⟨rfl,hb⟩))
      go_ret
      exact ⟨by rw [E.out]; rfl,hb⟩
  · have d1:(k == 1)=false:=by simp; omega
    have d2:(k == 2)=false:=by simp; omega
    have d6:(k == 6)=false:=by simp; omega
    have d8:(k == 8)=false:=by simp; omega
    by_cases c3:k=3 ∨ k=4
    · have e:bareB ⟨k,n,y,f,x,args⟩=(betwB n 64 && sameD n n y 0 f x):=by
        unfold bareB sameD
        simp only
        rw [if_neg c1,if_pos c3]
        simp only [size_nil,true_and]
      have E:=Lib.hid e
      clear e c1 d1 d2 d6 d8
      cases hbt:betwB n 64
      · rw [hbt] at E
        have HB:=Lib.hid hbt
        clear hbt
        rcases c3 with rfl | rfl
        all_goals
          go_enter Tryz.func153,Tryz.ntmps153
          go_wp2_with (first
            | (go_at_call 181; refine (f_between _ _ _).mono ?_; rintro e w' ⟨rfl,rfl⟩; rw [HB.out]))
          go_ret
          exact ⟨by rw [E.out]; rfl,HSB.out⟩
      · rw [hbt] at E
        have HB:=Lib.hid hbt
        clear hbt
        rcases c3 with rfl | rfl
        all_goals
          go_enter Tryz.func153,Tryz.ntmps153
          go_wp2_with (first
            | (go_at_call 181; refine (f_between _ _ _).mono ?_; rintro e w' ⟨rfl,rfl⟩; rw [HB.out])
            | (refine (c_same _ _ _ _ _ _ _ _ _ _ _).mono ?_; rintro e w1 ⟨rfl,hb⟩))
          go_ret
          exact ⟨by rw [E.out]; rfl,hb⟩
    · have d3:(k == 3)=false:=by simp; omega
      have d4:(k == 4)=false:=by simp; omega
      by_cases c5:k=5
      · have e:bareB ⟨k,n,y,f,x,args⟩=(betwB n 64 && (decide (0 ≤ y) && (decide (y ≤ 100) && sameD n n y y f x))):=by
          unfold bareB sameD
          simp only
          rw [if_neg c1,if_neg c3,if_pos c5]
          simp only [size_nil,true_and,Bool.decide_and,Bool.and_assoc]
        have E:=Lib.hid e
        subst c5
        clear e c1 d1 d2 d6 d8 c3 d3 d4
        cases hbt:betwB n 64
        · rw [hbt] at E
          have HB:=Lib.hid hbt
          clear hbt
          go_enter Tryz.func153,Tryz.ntmps153
          go_wp2_with (go_at_call 181; refine (f_between _ _ _).mono ?_; rintro e w' ⟨rfl,rfl⟩; rw [HB.out])
          go_ret
          exact ⟨by rw [E.out]; rfl,HSB.out⟩
        · rw [hbt] at E
          have HB:=Lib.hid hbt
          clear hbt
          by_cases y0:0 ≤ y
          · have q0:decide (0 ≤ y)=true:=by simpa using y0
            by_cases y1:y ≤ 100
            · have q1:decide (y ≤ 100)=true:=by simpa using y1
              rw [q0,q1] at E
              go_enter Tryz.func153,Tryz.ntmps153
              go_wp2_with (first
                | (go_at_call 181; refine (f_between _ _ _).mono ?_; rintro e w' ⟨rfl,rfl⟩; rw [HB.out])
                | (refine (c_same _ _ _ _ _ _ _ _ _ _ _).mono ?_; rintro e w1 ⟨rfl,hb⟩))
              go_ret
              exact ⟨by rw [E.out]; rfl,hb⟩
            · have q1:decide (y ≤ 100)=false:=by simpa using y1
              rw [q0,q1] at E
              go_enter Tryz.func153,Tryz.ntmps153
              go_wp2_with (go_at_call 181; refine (f_between _ _ _).mono ?_; rintro e w' ⟨rfl,rfl⟩; rw [HB.out])
              go_ret
              exact ⟨by rw [E.out]; rfl,HSB.out⟩
          · have q0:decide (0 ≤ y)=false:=by simpa using y0
            rw [q0] at E
            go_enter Tryz.func153,Tryz.ntmps153
            go_wp2_with (go_at_call 181; refine (f_between _ _ _).mono ?_; rintro e w' ⟨rfl,rfl⟩; rw [HB.out])
            go_ret
            exact ⟨by rw [E.out]; rfl,HSB.out⟩
      · have d5:(k == 5)=false:=by simp; omega
        by_cases c7:k=7
        · have e:bareB ⟨k,n,y,f,x,args⟩=(betwB n 64 && (nameB (blOf f) && (betwB x.size 256 && (!(blOf x).contains 34 && decide (y=0))))):=by
            unfold bareB
            simp only
            rw [if_neg c1,if_neg c3,if_neg c5,if_pos c7]
            simp only [Bool.and_assoc]
          have E:=Lib.hid e
          subst c7
          clear e c1 d1 d2 d6 d8 c3 d3 d4 c5 d5
          cases hbt:betwB n 64
          · rw [hbt] at E
            have HB:=Lib.hid hbt
            clear hbt
            go_enter Tryz.func153,Tryz.ntmps153
            go_wp2_with (go_at_call 181; refine (f_between _ _ _).mono ?_; rintro e w' ⟨rfl,rfl⟩; rw [HB.out])
            go_ret
            exact ⟨by rw [E.out]; rfl,HSB.out⟩
          · rw [hbt] at E
            have HB:=Lib.hid hbt
            clear hbt
            cases hnm:nameB (blOf f)
            · rw [hnm] at E
              have HN:=Lib.hid hnm
              clear hnm
              go_enter Tryz.func153,Tryz.ntmps153
              go_wp2_with (first
                | (go_at_call 181; refine (f_between _ _ _).mono ?_; rintro e w' ⟨rfl,rfl⟩; rw [HB.out])
                | (go_at_call 107; refine (f_Name _ _ hf).mono ?_; rintro e w1 ⟨rfl,hb⟩; rw [HN.out]))
              go_ret
              exact ⟨by rw [E.out]; rfl,HSB.out.trans (hb.mono (by simp; omega))⟩
            · rw [hnm] at E
              have HN:=Lib.hid hnm
              clear hnm
              cases hlen:betwB x.size 256
              · rw [hlen] at E
                have HL:=Lib.hid hlen
                clear hlen
                go_enter Tryz.func153,Tryz.ntmps153
                go_wp2_with (first
                  | (go_at_call 107; refine (f_Name _ _ hf).mono ?_; rintro e w1 ⟨rfl,hb⟩; rw [HN.out]; obtain ⟨hcc,hff⟩:=bcellx hb)
                  | (go_at_call 181; refine (f_between _ _ _).mono ?_; rintro e w' ⟨rfl,rfl⟩; first | rw [HB.out] | rw [HL.out]))
                go_ret
                exact ⟨by rw [E.out]; rfl,HSB.out.trans (hb.mono (by simp; omega))⟩
              · rw [hlen] at E
                have HL:=Lib.hid hlen
                clear hlen
                cases hq:(blOf x).contains 34
                · rw [hq] at E
                  have hq':decide (0 ≤ Lib.indexByte x.data.toList (34:Int).toNat.toUInt8)=false:=(indexByte_has _ _).trans hq
                  have HQ:=Lib.hid hq'
                  clear hq hq'
                  by_cases y0:y=0
                  · have q0:(y == 0)=true:=by simpa using y0
                    have q2:decide (y=0)=true:=by simpa using y0
                    rw [q2] at E
                    clear y0 q2
                    go_enter Tryz.func153,Tryz.ntmps153
                    go_wp2_with (first
                      | (go_at_call 107; refine (f_Name _ _ hf).mono ?_; rintro e w1 ⟨rfl,hb⟩; rw [HN.out]; obtain ⟨hcc,hff⟩:=bcellx hb)
                      | (go_at_call 182; refine (Tryz.strings_ContainsRune_ascii _ _ _ (by decide) (by decide)).mono ?_; rintro e w' ⟨rfl,rfl⟩; rw [HQ.out])
                      | (go_at_call 181; refine (f_between _ _ _).mono ?_; rintro e w' ⟨rfl,rfl⟩; first | rw [HB.out] | rw [HL.out]))
                    go_ret
                    exact ⟨by rw [E.out]; rfl,HSB.out.trans (hb.mono (by simp; omega))⟩
                  · have q0:(y == 0)=false:=by simpa using y0
                    have q2:decide (y=0)=false:=by simpa using y0
                    rw [q2] at E
                    clear y0 q2
                    go_enter Tryz.func153,Tryz.ntmps153
                    go_wp2_with (first
                      | (go_at_call 107; refine (f_Name _ _ hf).mono ?_; rintro e w1 ⟨rfl,hb⟩; rw [HN.out]; obtain ⟨hcc,hff⟩:=bcellx hb)
                      | (go_at_call 182; refine (Tryz.strings_ContainsRune_ascii _ _ _ (by decide) (by decide)).mono ?_; rintro e w' ⟨rfl,rfl⟩; rw [HQ.out])
                      | (go_at_call 181; refine (f_between _ _ _).mono ?_; rintro e w' ⟨rfl,rfl⟩; first | rw [HB.out] | rw [HL.out]))
                    go_ret
                    exact ⟨by rw [E.out]; rfl,HSB.out.trans (hb.mono (by simp; omega))⟩
                · rw [hq] at E
                  have hq':decide (0 ≤ Lib.indexByte x.data.toList (34:Int).toNat.toUInt8)=true:=(indexByte_has _ _).trans hq
                  have HQ:=Lib.hid hq'
                  clear hq hq'
                  go_enter Tryz.func153,Tryz.ntmps153
                  go_wp2_with (first
                    | (go_at_call 107; refine (f_Name _ _ hf).mono ?_; rintro e w1 ⟨rfl,hb⟩; rw [HN.out]; obtain ⟨hcc,hff⟩:=bcellx hb)
                    | (go_at_call 182; refine (Tryz.strings_ContainsRune_ascii _ _ _ (by decide) (by decide)).mono ?_; rintro e w' ⟨rfl,rfl⟩; rw [HQ.out])
                    | (go_at_call 181; refine (f_between _ _ _).mono ?_; rintro e w' ⟨rfl,rfl⟩; first | rw [HB.out] | rw [HL.out]))
                  go_ret
                  exact ⟨by rw [E.out]; rfl,HSB.out.trans (hb.mono (by simp; omega))⟩
        · have e:bareB ⟨k,n,y,f,x,args⟩=false:=by
            unfold bareB
            simp only
            rw [if_neg c1,if_neg c3,if_neg c5,if_neg c7]
          have E:=Lib.hid e
          have d7:(k == 7)=false:=by simp; omega
          clear e c1 c3 c5 c7
          go_enter Tryz.func153,Tryz.ntmps153
          go_wp2_with (go_at_call 181; refine (f_between _ _ _).mono ?_; rintro e w' ⟨rfl,rfl⟩)
          go_ret
          exact ⟨by rw [E.out]; rfl,HSB.out⟩
def trm0 : Trm := ⟨0,0,0,E0,E0,[]⟩
def trmAt (L : List Trm) (k : Nat) : Trm := L.getD k trm0
def TermAt (w : World) (S : Nat → Prop) (b off : Nat) (t : Trm) : Prop := w.cell? ⟨b,off,none⟩ = some (.int .i64 t.kind) ∧ w.cell? ⟨b,off + 1,none⟩ = some (.int .i64 t.num) ∧ w.cell? ⟨b,off + 2,none⟩ = some (.int .i64 t.yrs) ∧
 w.cell? ⟨b,off+3,none⟩=some (.string t.field) ∧ w.cell? ⟨b,off+4,none⟩=some (.string t.text) ∧ ∃ u,w.cell? ⟨b,off+5,none⟩=some u ∧ IntsAt w S u t.args
def TermsAt (w : World) (S : Nat → Prop) (v : Value) (L : List Trm) : Prop :=
 ∃ (A:Option Addr) (n c:Nat),v=.slice A n c ∧ n=L.length ∧ n ≤ c ∧ (0 < n → ∃ b off,A=some ⟨b,off,none⟩ ∧ S b ∧ ∀ k,k < n → TermAt w S b (off+k*6) (trmAt L k))
theorem TermAt.keep {w w' : World} {S : Nat → Prop} {b off : Nat} {t : Trm} (h : TermAt w S b off t) (hb : w'.heap[b]? = w.heap[b]?) (hk : ∀ b,S b → w'.heap[b]? = w.heap[b]?) : TermAt w' S b off t := by
 obtain ⟨h0,h1,h2,h3,h4,u,h5,h6⟩:=h
 have e:∀ o,w'.cell? ⟨b,o,none⟩=w.cell? ⟨b,o,none⟩:=fun o => World.cell?_of_block hb
 exact ⟨(e _).trans h0,(e _).trans h1,(e _).trans h2,(e _).trans h3,(e _).trans h4,u,(e _).trans h5,h6.keep hk⟩
theorem TermAt.mono {w : World} {S T : Nat → Prop} {b off : Nat} {t : Trm} (h : TermAt w S b off t) (hk : ∀ b,S b → T b) : TermAt w T b off t := by
 obtain ⟨h0,h1,h2,h3,h4,u,h5,h6⟩:=h
 exact ⟨h0,h1,h2,h3,h4,u,h5,h6.mono hk⟩
theorem TermsAt.keep {w w' : World} {S : Nat → Prop} {v : Value} {L : List Trm} (h : TermsAt w S v L) (hk : ∀ b,S b → w'.heap[b]? = w.heap[b]?) : TermsAt w' S v L := by
 obtain ⟨A,n,c,h1,h2,h3,h4⟩:=h
 refine ⟨A,n,c,h1,h2,h3,fun hn => ?_⟩
 obtain ⟨b,off,hA,hS,hc⟩:=h4 hn
 exact ⟨b,off,hA,hS,fun k hk' => (hc k hk').keep (hk b hS) hk⟩
theorem TermsAt.mono {w : World} {S T : Nat → Prop} {v : Value} {L : List Trm} (h : TermsAt w S v L) (hk : ∀ b,S b → T b) : TermsAt w T v L := by
 obtain ⟨A,n,c,h1,h2,h3,h4⟩:=h
 refine ⟨A,n,c,h1,h2,h3,fun hn => ?_⟩
 obtain ⟨b,off,hA,hS,hc⟩:=h4 hn
 exact ⟨b,off,hA,hk b hS,fun k hk' => (hc k hk').mono hk⟩
theorem TermsAt.below {w w' : World} {B : Nat} {v : Value} {L : List Trm} (h : TermsAt w (· < B) v L) (hb : Below B w w') : TermsAt w' (· < B) v L := h.keep fun b hB => hb.block b hB
def TreeAt (w : World) (S : Nat → Prop) : Nat → Value → Tree → Prop
 | 0,_,_ => False
 | d+1,v,.node t xs => ∃ b,v=.pointer (some ⟨b,0,none⟩) ∧ S b ∧ TermAt w S b 0 t ∧ ∃ A n c,w.cell? ⟨b,6,none⟩=some (.slice A n c) ∧ n=xs.length ∧ n ≤ c ∧
  (0 < n → ∃ g off,A=some ⟨g,off,none⟩ ∧ S g ∧ ∀ k x,xs[k]?=some x → ∃ p,w.cell? ⟨g,off+k,none⟩=some p ∧ TreeAt w S d p x)
theorem TreeAt.keep {w w' : World} {S : Nat → Prop} (hk : ∀ b,S b → w'.heap[b]? = w.heap[b]?) : ∀ {d v T},TreeAt w S d v T → TreeAt w' S d v T := by
 intro d
 induction d with
 | zero => intro v T h; exact h.elim
 | succ d ih =>
  intro v T h
  obtain ⟨t,xs⟩:=T
  obtain ⟨b,h1,h2,h3,A,n,c,h4,h5,h6,h7⟩:=h
  refine ⟨b,h1,h2,h3.keep (hk b h2) hk,A,n,c,(World.cell?_of_block (hk b h2)).trans h4,h5,h6,fun hn => ?_⟩
  obtain ⟨g,off,hA,hg,hc⟩:=h7 hn
  refine ⟨g,off,hA,hg,fun k x hx => ?_⟩
  obtain ⟨p,hp,ht⟩:=hc k x hx
  exact ⟨p,(World.cell?_of_block (hk g hg)).trans hp,ih ht⟩
theorem TreeAt.mono {w : World} {S S' : Nat → Prop} (hk : ∀ b,S b → S' b) : ∀ {d v T},TreeAt w S d v T → TreeAt w S' d v T := by
 intro d
 induction d with
 | zero => intro v T h; exact h.elim
 | succ d ih =>
  intro v T h
  obtain ⟨t,xs⟩:=T
  obtain ⟨b,h1,h2,h3,A,n,c,h4,h5,h6,h7⟩:=h
  refine ⟨b,h1,hk b h2,h3.mono hk,A,n,c,h4,h5,h6,fun hn => ?_⟩
  obtain ⟨g,off,hA,hg,hc⟩:=h7 hn
  refine ⟨g,off,hA,hk g hg,fun k x hx => ?_⟩
  obtain ⟨p,hp,ht⟩:=hc k x hx
  exact ⟨p,hp,ih ht⟩
theorem TreeAt.ptr {w : World} {S : Nat → Prop} {d : Nat} {v : Value} {T : Tree} (h : TreeAt w S d v T) : ∃ b,v = .pointer (some ⟨b,0,none⟩) ∧ S b := by
 cases d with
 | zero => exact h.elim
 | succ d => obtain ⟨t,xs⟩:=T; obtain ⟨b,h1,h2,_⟩:=h; exact ⟨b,h1,h2⟩
structure ArrV (w : World) (B n : Nat) (f : Nat → Value) : Prop where
  cell : ∀ i, i < n → w.cell? ⟨B, i, none⟩ = some (f i)
  live : ∀ i, i < n → w.frozen? ⟨B, i, none⟩ = false
theorem infoB : (Tryz.prog.info? 5).map (fun i => (i.zero,i.size,i.bytes)) = some (some (.int .u8 0),1,1) := by kernel_rfl
theorem byteCells_snoc1 (l : List UInt8) (c : Nat) (h : c < 256) : Lib.byteCells (l ++ [UInt8.ofNat c]) = Lib.byteCells l ++ [.int .u8 (c : Int)] := by
 simp only [Lib.byteCells,List.map_append,List.map_cons,List.map_nil]
 rw [UInt8.toNat_ofNat_of_lt' (by simpa using h)]
theorem Arr.only {w w' : World} {B n g : Nat} {f : Nat → Int} (h : Arr w B n f) (hg : w.grownBy w' (some g)) (hB : B < w.heap.size) (hne : B ≠ g) : Arr w' B n f :=
 ⟨fun j hj => by rw [World.cell?_of_block (hg.block B hB (by simpa using hne))]; exact h.cell j hj,fun j hj => by rw [World.frozen?_of_block (hg.block B hB (by simpa using hne))]; exact h.live j hj⟩
end Go.Proofs.YtgdngfdeeadlnaaGreatDoor
