/- Contracts: slices.Equal of answers, of shows and of numbers. And more. -/
import Derived.Test.YtgdngfdeeadlnaaGreatDoorZ10
import Derived.BigQuiet
import Derived.Test.YtgdngfdeeadlnaaGreatDoorZ09
import Derived.Test.YtgdngfdeeadlnaaGreatDoorZ01
set_option linter.unusedVariables false
set_option linter.unusedSimpArgs false
namespace Go.Proofs.YtgdngfdeeadlnaaGreatDoor
open Go.RowKit Num
set_option maxRecDepth 100000 in
set_option maxHeartbeats 2000000 in
theorem q_EqA (va vb : Value) (La Lb : List Ans) (w : World) (ha : AnssAt w (· < w.heap.size) va La) (hb : AnssAt w (· < w.heap.size) vb Lb) (hla : La.length ≤ 1000000) (hlb : Lb.length ≤ 1000000) :
    Calls Tryz.prog 69 #[va,vb] w (SameB (La=Lb) w):=by
  obtain ⟨A,n,c,rfl,hn,hnc,hA⟩:=ha
  obtain ⟨B,m,k,rfl,hm,hmk,hB⟩:=hb
  have n1:n ≤ 1000000:=by omega
  have m1:m ≤ 1000000:=by omega
  have HA:=Lib.hid hA
  have HB:=Lib.hid hB
  have HN:=Lib.hid hn
  have HM:=Lib.hid hm
  clear hA hB hn hm hla hlb
  by_cases hnm:n=m
  · subst hnm
    go_enter Tryz.func69,Tryz.ntmps69
    go_wp2_with fail
    go_loopw [5,13] (fun v5 v13 wr => ∃ i:Nat,i ≤ n ∧ v13=.int .i64 (i:Int) ∧ (∀ q,q < i → ansAt La q=ansAt Lb q) ∧ Below w.heap.size w wr) (fun _ v13 _ => n - (intOf v13).toNat)
    case atStart => exact ⟨0,by omega,rfl,fun q hq => absurd hq (Nat.not_lt_zero _),Below.refl _ _⟩
    case round =>
      obtain ⟨i,hi,rfl,heq,hbr⟩:=hrel
      rename World => wr
      have HE:=Lib.hid heq
      have HBR:=Lib.hid hbr
      have hsz:=hbr.size
      clear heq hbr
      by_cases hlt:i < n
      · obtain ⟨b1,o1,rfl,hS1,hc1⟩:=HA.out (by omega)
        obtain ⟨b2,o2,rfl,hS2,hc2⟩:=HB.out (by omega)
        obtain ⟨x0,x1,x2⟩:=hc1 i hlt
        obtain ⟨y0,y1,y2⟩:=hc2 i hlt
        obtain ⟨ga,hga⟩:∃ g,ansAt La i=g:=⟨_,rfl⟩
        obtain ⟨gb,hgb⟩:∃ g,ansAt Lb i=g:=⟨_,rfl⟩
        rw [hga] at x0 x1 x2
        rw [hgb] at y0 y1 y2
        obtain ⟨f1,t1,m1'⟩:=ga
        obtain ⟨f2,t2,m2'⟩:=gb
        have e0:wr.cell? ⟨b1,o1+i*3,none⟩=_:=(HBR.out.cell (p:=⟨b1,o1+i*3,none⟩) hS1).trans x0
        have r0:wr.cell? ⟨b2,o2+i*3,none⟩=_:=(HBR.out.cell (p:=⟨b2,o2+i*3,none⟩) hS2).trans y0
        have e1:wr.cell? ⟨b1,o1+i*3+1,none⟩=_:=(HBR.out.cell (p:=⟨b1,o1+i*3+1,none⟩) hS1).trans x1
        have r1:wr.cell? ⟨b2,o2+i*3+1,none⟩=_:=(HBR.out.cell (p:=⟨b2,o2+i*3+1,none⟩) hS2).trans y1
        have e2:wr.cell? ⟨b1,o1+i*3+2,none⟩=_:=(HBR.out.cell (p:=⟨b1,o1+i*3+2,none⟩) hS1).trans x2
        have r2:wr.cell? ⟨b2,o2+i*3+2,none⟩=_:=(HBR.out.cell (p:=⟨b2,o2+i*3+2,none⟩) hS2).trans y2
        have HGA:=Lib.hid hga
        have HGB:=Lib.hid hgb
        have zi:(i:Int) < (n:Int):=by omega
        have z0:(0:Int) ≤ (i:Int):=by omega
        have hfin:(f1.toList == f2.toList)=true → (t1.toList == t2.toList)=true → (m1' == m2')=true → ∀ q,q < i+1 → ansAt La q=ansAt Lb q:=fun h0 h1 h2 q hq => by
          by_cases e:q=i
          · subst e
            rw [HGA.out,HGB.out,bytes_of h0,bytes_of h1,eq_of_beq h2]
          · exact HE.out q (by omega)
        have hno:((f1.toList == f2.toList) && (t1.toList == t2.toList) && (m1' == m2'))=false → La ≠ Lb:=fun h e => by
          subst e
          have h2:=HGA.out.symm.trans HGB.out
          injection h2 with i0 i1 i2
          subst i0 i1 i2
          simp at h
        have fin0:((f1.toList == f2.toList) && (t1.toList == t2.toList) && (m1' == m2'))=false → SameB (La=Lb) w (.returned (.bool false)) wr:=fun h => ⟨false,rfl,⟨fun h => (by cases h),fun e => absurd e (hno h)⟩,HBR.out⟩
        have fin1:∀ nq,((f1.toList == f2.toList) && (t1.toList == t2.toList) && (m1' == m2'))=false → SameB (La=Lb) w (.returned (.bool false)) (wr.drewN nq):=fun nq h => ⟨false,rfl,⟨fun h => (by cases h),fun e => absurd e (hno h)⟩,below_drewN HBR.out nq⟩
        have HFIN:=Lib.hid hfin
        have FIN0:=Lib.hid fin1
        clear x0 y0 x1 y1 x2 y2 hga hgb hc1 hc2 hfin hno fin0 fin1
        cases k0:(f1.toList == f2.toList) <;> cases k1:(t1.toList == t2.toList) <;> cases k2:(m1' == m2')
        all_goals first
          | (have hff:=FIN0.out
             rw [k0,k1,k2] at hff
             have HFF:=Lib.hid (fun nq => hff nq rfl)
             clear hff FIN0 HFIN
             skip
             go_upto_region 6 with fail
             go_quiet (fail)
             go_wp2_with fail
             go_ret
             exact HFF.out _)
          | (have hff:=HFIN.out
             rw [k0,k1,k2] at hff
             have HFF:=Lib.hid (hff rfl rfl rfl)
             clear hff FIN0 HFIN
             skip
             go_upto_region 6 with fail
             go_quiet (fail)
             go_wp2_with fail
             go_roundw
             case measure => simp [intOf]; omega
             case rel => exact ⟨i+1,by omega,by go_num,HFF.out,below_drewN HBR.out _⟩)
      · have zi:¬ (i:Int) < (n:Int):=by omega
        have he:La=Lb:=anss_eq (by have:=HN.out; have:=HM.out; omega) (fun q hq => HE.out q (by have:=HN.out; omega))
        have HEQ:=Lib.hid he
        clear he
        go_wp2_with fail
        go_ret
        exact ⟨true,rfl,⟨fun _ => HEQ.out,fun _ => rfl⟩,HBR.out⟩
  · have hne:((n:Int) == (m:Int))=false:=by simp; omega
    have hne2:((n:Int) != (m:Int))=true:=by simp; omega
    have he:La ≠ Lb:=fun e => hnm (by rw [HN.out,HM.out,e])
    have HEQ:=Lib.hid he
    clear he
    go_enter Tryz.func69,Tryz.ntmps69
    go_wp2_with fail
    go_ret
    exact ⟨false,rfl,⟨fun h => (by cases h),fun e => absurd e HEQ.out⟩,Below.refl _ _⟩
set_option maxRecDepth 100000 in
set_option maxHeartbeats 2000000 in
theorem q_EqI (va vb : Value) (La Lb : List Int) (w : World) (ha : IntsAt w (· < w.heap.size) va La) (hb : IntsAt w (· < w.heap.size) vb Lb) (hla : La.length ≤ 1000000) (hlb : Lb.length ≤ 1000000) :
    Calls Tryz.prog 68 #[va,vb] w (SameB (La=Lb) w):=by
  obtain ⟨A,n,c,rfl,hn,hnc,hA⟩:=ha
  obtain ⟨B,m,k,rfl,hm,hmk,hB⟩:=hb
  have n1:n ≤ 1000000:=by omega
  have m1:m ≤ 1000000:=by omega
  have HA:=Lib.hid hA
  have HB:=Lib.hid hB
  have HN:=Lib.hid hn
  have HM:=Lib.hid hm
  clear hA hB hn hm hla hlb
  by_cases hnm:n=m
  · subst hnm
    go_enter Tryz.func68,Tryz.ntmps68
    go_wp2_with fail
    go_loopw [5,13] (fun v5 v13 wr => ∃ i:Nat,i ≤ n ∧ v13=.int .i64 (i:Int) ∧ (∀ q,q < i → La.getD q 0=Lb.getD q 0) ∧ Below w.heap.size w wr) (fun _ v13 _ => n - (intOf v13).toNat)
    case atStart => exact ⟨0,by omega,rfl,fun q hq => absurd hq (Nat.not_lt_zero _),Below.refl _ _⟩
    case round =>
      obtain ⟨i,hi,rfl,heq,hbr⟩:=hrel
      rename World => wr
      have HE:=Lib.hid heq
      have HBR:=Lib.hid hbr
      have hsz:=hbr.size
      clear heq hbr
      by_cases hlt:i < n
      · obtain ⟨b1,o1,rfl,hS1,hc1⟩:=HA.out (by omega)
        obtain ⟨b2,o2,rfl,hS2,hc2⟩:=HB.out (by omega)
        have x0:=hc1 i hlt
        have y0:=hc2 i hlt
        obtain ⟨ga,hga⟩:∃ g,La.getD i 0=g:=⟨_,rfl⟩
        obtain ⟨gb,hgb⟩:∃ g,Lb.getD i 0=g:=⟨_,rfl⟩
        rw [hga] at x0
        rw [hgb] at y0
        obtain ⟨m1',hm1⟩:∃ x,ga=x:=⟨_,rfl⟩
        obtain ⟨m2',hm2⟩:∃ x,gb=x:=⟨_,rfl⟩
        rw [hm1] at hga x0
        rw [hm2] at hgb y0
        clear hm1 hm2 ga gb
        have e0:wr.cell? ⟨b1,o1+i,none⟩=_:=(HBR.out.cell (p:=⟨b1,o1+i,none⟩) hS1).trans x0
        have r0:wr.cell? ⟨b2,o2+i,none⟩=_:=(HBR.out.cell (p:=⟨b2,o2+i,none⟩) hS2).trans y0
        have HGA:=Lib.hid hga
        have HGB:=Lib.hid hgb
        have zi:(i:Int) < (n:Int):=by omega
        have z0:(0:Int) ≤ (i:Int):=by omega
        have hfin:(m1' == m2')=true → ∀ q,q < i+1 → La.getD q 0=Lb.getD q 0:=fun h0 q hq => by
          by_cases e:q=i
          · subst e
            rw [HGA.out,HGB.out,eq_of_beq h0]
          · exact HE.out q (by omega)
        have hno:((m1' == m2'))=false → La ≠ Lb:=fun h e => by
          subst e
          have h2:=HGA.out.symm.trans HGB.out
          subst h2
          simp at h
        have fin0:((m1' == m2'))=false → SameB (La=Lb) w (.returned (.bool false)) wr:=fun h => ⟨false,rfl,⟨fun h => (by cases h),fun e => absurd e (hno h)⟩,HBR.out⟩
        have fin1:∀ nq,((m1' == m2'))=false → SameB (La=Lb) w (.returned (.bool false)) (wr.drewN nq):=fun nq h => ⟨false,rfl,⟨fun h => (by cases h),fun e => absurd e (hno h)⟩,below_drewN HBR.out nq⟩
        have HFIN:=Lib.hid hfin
        have FIN0:=Lib.hid fin1
        clear x0 y0 hga hgb hc1 hc2 hfin hno fin0 fin1
        cases k0:(m1' == m2')
        all_goals first
          | (have hff:=FIN0.out
             rw [k0] at hff
             have HFF:=Lib.hid (fun nq => hff nq rfl)
             clear hff FIN0 HFIN
             have ki:(m1' != m2')=true:=by simpa [bne] using k0
             go_upto_region 6 with fail
             go_quiet (fail)
             go_wp2_with fail
             go_ret
             exact HFF.out _)
          | (have hff:=HFIN.out
             rw [k0] at hff
             have HFF:=Lib.hid (hff rfl)
             clear hff FIN0 HFIN
             have ki:(m1' != m2')=false:=by simpa [bne] using k0
             go_upto_region 6 with fail
             go_quiet (fail)
             go_wp2_with fail
             go_roundw
             case measure => simp [intOf]; omega
             case rel => exact ⟨i+1,by omega,by go_num,HFF.out,below_drewN HBR.out _⟩)
      · have zi:¬ (i:Int) < (n:Int):=by omega
        have he:La=Lb:=ints_eq (by have:=HN.out; have:=HM.out; omega) (fun q hq => HE.out q (by have:=HN.out; omega))
        have HEQ:=Lib.hid he
        clear he
        go_wp2_with fail
        go_ret
        exact ⟨true,rfl,⟨fun _ => HEQ.out,fun _ => rfl⟩,HBR.out⟩
  · have hne:((n:Int) == (m:Int))=false:=by simp; omega
    have hne2:((n:Int) != (m:Int))=true:=by simp; omega
    have he:La ≠ Lb:=fun e => hnm (by rw [HN.out,HM.out,e])
    have HEQ:=Lib.hid he
    clear he
    go_enter Tryz.func68,Tryz.ntmps68
    go_wp2_with fail
    go_ret
    exact ⟨false,rfl,⟨fun h => (by cases h),fun e => absurd e HEQ.out⟩,Below.refl _ _⟩
set_option maxRecDepth 100000 in
set_option maxHeartbeats 2000000 in
theorem q_EqS (va vb : Value) (La Lb : List Shw) (w : World) (ha : ShwsAt w (· < w.heap.size) va La) (hb : ShwsAt w (· < w.heap.size) vb Lb) (hla : La.length ≤ 1000000) (hlb : Lb.length ≤ 1000000) :
    Calls Tryz.prog 71 #[va,vb] w (SameB (La=Lb) w):=by
  obtain ⟨A,n,c,rfl,hn,hnc,hA⟩:=ha
  obtain ⟨B,m,k,rfl,hm,hmk,hB⟩:=hb
  have n1:n ≤ 1000000:=by omega
  have m1:m ≤ 1000000:=by omega
  have HA:=Lib.hid hA
  have HB:=Lib.hid hB
  have HN:=Lib.hid hn
  have HM:=Lib.hid hm
  clear hA hB hn hm hla hlb
  by_cases hnm:n=m
  · subst hnm
    go_enter Tryz.func71,Tryz.ntmps71
    go_wp2_with fail
    go_loopw [5,13] (fun v5 v13 wr => ∃ i:Nat,i ≤ n ∧ v13=.int .i64 (i:Int) ∧ (∀ q,q < i → shwAt La q=shwAt Lb q) ∧ Below w.heap.size w wr) (fun _ v13 _ => n - (intOf v13).toNat)
    case atStart => exact ⟨0,by omega,rfl,fun q hq => absurd hq (Nat.not_lt_zero _),Below.refl _ _⟩
    case round =>
      obtain ⟨i,hi,rfl,heq,hbr⟩:=hrel
      rename World => wr
      have HE:=Lib.hid heq
      have HBR:=Lib.hid hbr
      have hsz:=hbr.size
      clear heq hbr
      by_cases hlt:i < n
      · obtain ⟨b1,o1,rfl,hS1,hc1⟩:=HA.out (by omega)
        obtain ⟨b2,o2,rfl,hS2,hc2⟩:=HB.out (by omega)
        obtain ⟨x0,x1⟩:=hc1 i hlt
        obtain ⟨y0,y1⟩:=hc2 i hlt
        obtain ⟨ga,hga⟩:∃ g,shwAt La i=g:=⟨_,rfl⟩
        obtain ⟨gb,hgb⟩:∃ g,shwAt Lb i=g:=⟨_,rfl⟩
        rw [hga] at x0 x1
        rw [hgb] at y0 y1
        obtain ⟨f1,t1⟩:=ga
        obtain ⟨f2,t2⟩:=gb
        have e0:wr.cell? ⟨b1,o1+i*2,none⟩=_:=(HBR.out.cell (p:=⟨b1,o1+i*2,none⟩) hS1).trans x0
        have r0:wr.cell? ⟨b2,o2+i*2,none⟩=_:=(HBR.out.cell (p:=⟨b2,o2+i*2,none⟩) hS2).trans y0
        have e1:wr.cell? ⟨b1,o1+i*2+1,none⟩=_:=(HBR.out.cell (p:=⟨b1,o1+i*2+1,none⟩) hS1).trans x1
        have r1:wr.cell? ⟨b2,o2+i*2+1,none⟩=_:=(HBR.out.cell (p:=⟨b2,o2+i*2+1,none⟩) hS2).trans y1
        have HGA:=Lib.hid hga
        have HGB:=Lib.hid hgb
        have zi:(i:Int) < (n:Int):=by omega
        have z0:(0:Int) ≤ (i:Int):=by omega
        have hfin:(f1.toList == f2.toList)=true → (t1.toList == t2.toList)=true → ∀ q,q < i+1 → shwAt La q=shwAt Lb q:=fun h0 h1 q hq => by
          by_cases e:q=i
          · subst e
            rw [HGA.out,HGB.out,bytes_of h0,bytes_of h1]
          · exact HE.out q (by omega)
        have hno:((f1.toList == f2.toList) && (t1.toList == t2.toList))=false → La ≠ Lb:=fun h e => by
          subst e
          have h2:=HGA.out.symm.trans HGB.out
          injection h2 with i0 i1
          subst i0 i1
          simp at h
        have fin0:((f1.toList == f2.toList) && (t1.toList == t2.toList))=false → SameB (La=Lb) w (.returned (.bool false)) wr:=fun h => ⟨false,rfl,⟨fun h => (by cases h),fun e => absurd e (hno h)⟩,HBR.out⟩
        have fin1:∀ nq,((f1.toList == f2.toList) && (t1.toList == t2.toList))=false → SameB (La=Lb) w (.returned (.bool false)) (wr.drewN nq):=fun nq h => ⟨false,rfl,⟨fun h => (by cases h),fun e => absurd e (hno h)⟩,below_drewN HBR.out nq⟩
        have HFIN:=Lib.hid hfin
        have FIN0:=Lib.hid fin1
        clear x0 y0 x1 y1 hga hgb hc1 hc2 hfin hno fin0 fin1
        cases k0:(f1.toList == f2.toList) <;> cases k1:(t1.toList == t2.toList)
        all_goals first
          | (have hff:=FIN0.out
             rw [k0,k1] at hff
             have HFF:=Lib.hid (fun nq => hff nq rfl)
             clear hff FIN0 HFIN
             skip
             go_upto_region 6 with fail
             go_quiet (fail)
             go_wp2_with fail
             go_ret
             exact HFF.out _)
          | (have hff:=HFIN.out
             rw [k0,k1] at hff
             have HFF:=Lib.hid (hff rfl rfl)
             clear hff FIN0 HFIN
             skip
             go_upto_region 6 with fail
             go_quiet (fail)
             go_wp2_with fail
             go_roundw
             case measure => simp [intOf]; omega
             case rel => exact ⟨i+1,by omega,by go_num,HFF.out,below_drewN HBR.out _⟩)
      · have zi:¬ (i:Int) < (n:Int):=by omega
        have he:La=Lb:=shws_eq (by have:=HN.out; have:=HM.out; omega) (fun q hq => HE.out q (by have:=HN.out; omega))
        have HEQ:=Lib.hid he
        clear he
        go_wp2_with fail
        go_ret
        exact ⟨true,rfl,⟨fun _ => HEQ.out,fun _ => rfl⟩,HBR.out⟩
  · have hne:((n:Int) == (m:Int))=false:=by simp; omega
    have hne2:((n:Int) != (m:Int))=true:=by simp; omega
    have he:La ≠ Lb:=fun e => hnm (by rw [HN.out,HM.out,e])
    have HEQ:=Lib.hid he
    clear he
    go_enter Tryz.func71,Tryz.ntmps71
    go_wp2_with fail
    go_ret
    exact ⟨false,rfl,⟨fun h => (by cases h),fun e => absurd e HEQ.out⟩,Below.refl _ _⟩
def ansC (L : List Ans) : List Value := L.flatMap fun a => [.string a.field,.string a.text,.int .i64 a.num]
def shwC (L : List Shw) : List Value := L.flatMap fun a => [.string a.field,.string a.role]
theorem ansC_len (L : List Ans) : (ansC L).length = L.length * 3 := by
 induction L with
 | nil => rfl
 | cons a r ih => show (_ :: _ :: _ :: ansC r).length=_; simp only [List.length_cons]; omega
theorem shwC_len (L : List Shw) : (shwC L).length = L.length * 2 := by
 induction L with
 | nil => rfl
 | cons a r ih => show (_ :: _ :: shwC r).length=_; simp only [List.length_cons]; omega
theorem ansC_snoc (L : List Ans) (a : Ans) : ansC (L ++ [a]) = ansC L ++ [.string a.field,.string a.text,.int .i64 a.num] := by simp [ansC]
theorem shwC_snoc (L : List Shw) (a : Shw) : shwC (L ++ [a]) = shwC L ++ [.string a.field,.string a.role] := by simp [shwC]
theorem ansC_at : ∀ (L : List Ans) (k : Nat),k < L.length → (ansC L)[k * 3]? = some (.string (ansAt L k).field) ∧ (ansC L)[k * 3 + 1]? = some (.string (ansAt L k).text) ∧ (ansC L)[k * 3 + 2]? = some (.int .i64 (ansAt L k).num)
 | [],k,h => absurd h (Nat.not_lt_zero _)
 | a :: r,0,_ => ⟨rfl,rfl,rfl⟩
 | a :: r,k+1,h => by
  have:=ansC_at r k (by simpa using h)
  have e:∀ j,(ansC (a :: r))[(k+1)*3+j]?=(ansC r)[k*3+j]?:=fun j => by
   show (Value.string a.field :: Value.string a.text :: Value.int .i64 a.num :: ansC r)[(k+1)*3+j]?=_
   rw [show (k+1)*3+j=(k*3+j)+1+1+1 by omega]
   rfl
  exact ⟨(e 0).trans this.1,(e 1).trans this.2.1,(e 2).trans this.2.2⟩
theorem shwC_at : ∀ (L : List Shw) (k : Nat),k < L.length → (shwC L)[k * 2]? = some (.string (shwAt L k).field) ∧ (shwC L)[k * 2 + 1]? = some (.string (shwAt L k).role)
 | [],k,h => absurd h (Nat.not_lt_zero _)
 | a :: r,0,_ => ⟨rfl,rfl⟩
 | a :: r,k+1,h => by
  have:=shwC_at r k (by simpa using h)
  have e:∀ j,(shwC (a :: r))[(k+1)*2+j]?=(shwC r)[k*2+j]?:=fun j => by
   show (Value.string a.field :: Value.string a.role :: shwC r)[(k+1)*2+j]?=_
   rw [show (k+1)*2+j=(k*2+j)+1+1 by omega]
   rfl
  exact ⟨(e 0).trans this.1,(e 1).trans this.2⟩
theorem AnssAt.of_own {w : World} {B n : Nat} {v : Value} {L : List Ans} (h : w.ownsRow B 50 3 v n (ansC L)) : AnssAt w (fun b => B ≤ b ∧ b < w.heap.size) v L := by
 have hl:n=L.length:=by have:=h.1; rw [ansC_len] at this; omega
 rcases id h.2 with ⟨rfl,rfl⟩ | ⟨g,cap,cur,rfl,hB,hh,hnc,_⟩
 ·exact ⟨none,0,0,rfl,hl,Nat.le_refl _,fun hn => absurd hn (Nat.lt_irrefl 0)⟩
 ·refine ⟨_,n,cap,rfl,hl,hnc,fun hn => ⟨g,0,rfl,⟨hB,(Array.getElem?_eq_some_iff.1 hh).1⟩,fun k hk => ?_⟩⟩
  obtain ⟨a,b,c⟩:=ansC_at L k (by omega)
  rw [Nat.zero_add]
  exact ⟨own_cell h _ _ a,own_cell h _ _ b,own_cell h _ _ c⟩
theorem ShwsAt.of_own {w : World} {B n : Nat} {v : Value} {L : List Shw} (h : w.ownsRow B 73 2 v n (shwC L)) : ShwsAt w (fun b => B ≤ b ∧ b < w.heap.size) v L := by
 have hl:n=L.length:=by have:=h.1; rw [shwC_len] at this; omega
 rcases id h.2 with ⟨rfl,rfl⟩ | ⟨g,cap,cur,rfl,hB,hh,hnc,_⟩
 ·exact ⟨none,0,0,rfl,hl,Nat.le_refl _,fun hn => absurd hn (Nat.lt_irrefl 0)⟩
 ·refine ⟨_,n,cap,rfl,hl,hnc,fun hn => ⟨g,0,rfl,⟨hB,(Array.getElem?_eq_some_iff.1 hh).1⟩,fun k hk => ?_⟩⟩
  obtain ⟨a,b⟩:=shwC_at L k (by omega)
  rw [Nat.zero_add]
  exact ⟨own_cell h _ _ a,own_cell h _ _ b⟩
abbrev RoleP (r : ByteArray) : Prop := r.size ≤ 1000 ∧ r.data.toList ≠ [110,111,98,111,100,121]
structure StmSm (s : Stm) : Prop where
  resp : s.resp.size ≤ 1000
  dep : -1000000000 ≤ s.dep ∧ s.dep ≤ 1000000000
  day : -1000000000 ≤ s.day ∧ s.day ≤ 1000000000
  an : s.ans.length ≤ 100
  ans : ∀ a ∈ s.ans, a.field.size ≤ 1000 ∧ a.text.size ≤ 1000 ∧ -1000000000 ≤ a.num ∧ a.num ≤ 1000000000
  sn : s.shw.length ≤ 100
  shw : ∀ a ∈ s.shw, a.field.size ≤ 1000 ∧ RoleP a.role
  cn : s.cond.length ≤ 1000
  cond : ∀ t ∈ s.cond, KitT t
theorem ansAt_mem {L : List Ans} {k : Nat} (hk : k < L.length) : ansAt L k ∈ L := by
 unfold ansAt
 rw [List.getD_eq_getElem?_getD,List.getElem?_eq_getElem hk]
 exact List.getElem_mem hk
theorem shwAt_mem {L : List Shw} {k : Nat} (hk : k < L.length) : shwAt L k ∈ L := by
 unfold shwAt
 rw [List.getD_eq_getElem?_getD,List.getElem?_eq_getElem hk]
 exact List.getElem_mem hk
def StmE (w : World) (db : Nat) (e : Ending) (w' : World) : Prop := ∃ s Aa na ca Ac nc cc As ns cs,e = .returned (.agg #[.string s.resp,.int .i64 s.dep,.int .i64 s.day,.slice Aa na ca,.slice Ac nc cc,.slice As ns cs]) ∧ StmAt w' (fun b => w.heap.size ≤ b ∧ b < w'.heap.size) (.slice Aa na ca) (.slice Ac nc cc) (.slice As ns cs) s ∧ StmSm s ∧ Dc w' db ∧ w.grownBy w' (some db)
def stmZ : Array Value := #[.string ⟨#[]⟩,.int .i64 0,.int .i64 0,.slice none 0 0,.slice none 0 0,.slice none 0 0]
structure GSt (w W : World) (db tb : Nat) (s : Stm) (va vc vs : Value) : Prop where
  dc : Dc W db
  blk : Blk W tb 29 #[.string s.resp, .int .i64 s.dep, .int .i64 s.day, va, vc, vs]
  oa : W.ownsRow tb 50 3 va s.ans.length (ansC s.ans)
  os : W.ownsRow tb 73 2 vs s.shw.length (shwC s.shw)
  cc : TermsAt W (fun b => w.heap.size < b ∧ b < tb) vc s.cond
  res : Blk W w.heap.size 29 stmZ
  gw : w.grownBy W (some db)
  sm : StmSm s
  dlt : db < w.heap.size
  tlt : w.heap.size < tb
section
variable {w W W' : World} {db tb : Nat} {s : Stm} {va vc vs : Value}
theorem GSt.keep (h : GSt w W db tb s va vc vs) (hd : Dc W' db) {row : Option Nat} (hg : W.grownBy W' row) (hr : ∀ q,row = some q → q = db) : GSt w W' db tb s va vc vs := by
 have h1:=h.dlt
 have h2:=h.tlt
 have l1:=h.blk.lt
 have l2:=h.res.lt
 have kb:∀ q,q < W.heap.size → q ≠ db → W'.heap[q]?=W.heap[q]?:=fun q hq hne => hg.block q hq (fun e => hne (hr q e.symm))
 have kr:∀ v:Value,(∀ g,v.ownBlock=some g → tb ≤ g) → v.ownBlock=none ∨ v.ownBlock ≠ row:=fun v hv => by
  rcases hb:v.ownBlock with _ | q
  ·exact .inl rfl
  ·refine .inr fun e => ?_
   have e2:=hr q e.symm
   have:=hv q hb
   omega
 exact ⟨hd,(kb tb l1 (by omega)).trans h.blk,h.oa.kept hg (kr va fun g hg => (h.oa.lt g hg).1),h.os.kept hg (kr vs fun g hg => (h.os.lt g hg).1),h.cc.keep fun b hb => kb b (by omega) (by omega),(kb _ l2 (by omega)).trans h.res,
  ⟨hg.os.trans h.gw.os,hg.tape.trans h.gw.tape,hg.output.trans h.gw.output,Nat.le_trans h.gw.size hg.size,fun q hq hne => (kb q (by have:=h.gw.size; omega) (fun e => hne (by rw [e]))).trans (h.gw.block q hq hne)⟩,h.sm,h1,h2⟩
theorem GSt.dice (h : GSt w W db tb s va vc vs) (hd : Dc W' db) (hg : W.grownBy W' (some db)) : GSt w W' db tb s va vc vs := h.keep hd hg (fun q hq => (Option.some.inj hq).symm)
theorem GSt.alloc (h : GSt w W db tb s va vc vs) (o : Obj) : GSt w (W.alloc o) db tb s va vc vs := h.keep (h.dc.alloc o) (World.grownBy_alloc W o none) (fun q hq => by cases hq)
theorem GSt.c3 (h : GSt w W db tb s va vc vs) : W.cell? ⟨tb,3,none⟩ = some va := (h.blk.cell 3).trans rfl
theorem GSt.c5 (h : GSt w W db tb s va vc vs) : W.cell? ⟨tb,5,none⟩ = some vs := (h.blk.cell 5).trans rfl
theorem GSt.row (h : GSt w W db tb s va vc vs) {o : Obj} {v : Value} (hv : ∀ g,v.ownBlock = some g → tb < g) (hg : (W.alloc o).grownBy W' v.ownBlock) : (∀ q,q < W.heap.size → v.ownBlock ≠ some q → W'.heap[q]? = W.heap[q]?) ∧ Dc W' db ∧ Blk W' tb 29 #[.string s.resp,.int .i64 s.dep,.int .i64 s.day,va,vc,vs] ∧ TermsAt W' (fun b => w.heap.size < b ∧ b < tb) vc s.cond ∧ Blk W' w.heap.size 29 stmZ ∧ w.grownBy W' (some db) := by
 have h1:=h.dlt
 have h2:=h.tlt
 have l1:=h.blk.lt
 have l2:=h.res.lt
 have kb:∀ q,q < W.heap.size → v.ownBlock ≠ some q → W'.heap[q]?=W.heap[q]?:=fun q hq hne => (hg.block q (by simp; omega) (fun e => hne e.symm)).trans (Below.heap_alloc W o q hq)
 have kl:∀ q,q ≤ tb → W'.heap[q]?=W.heap[q]?:=fun q hq => kb q (by omega) (fun e => by have:=hv q e; omega)
 have hsz:=hg.size
 simp only [World.size_alloc] at hsz
 refine ⟨kb,h.dc.keep fun q hq => kl q (by have:=h.dc.lt; omega),(kl tb (Nat.le_refl _)).trans h.blk,h.cc.keep fun b hb => kl b (by omega),(kl _ (by omega)).trans h.res,⟨hg.os.trans h.gw.os,hg.tape.trans h.gw.tape,hg.output.trans h.gw.output,by have:=h.gw.size; omega,fun q hq hne => (kl q (by omega)).trans (h.gw.block q hq hne)⟩⟩
theorem own_above {B : Nat} {e : TypeId} {z n : Nat} {v : Value} {xs : List Value} (h : W.ownsRow B e z v n xs) {cs : Array Value} {t : TypeId} (hb : Blk W B t cs) (hne : t ≠ e) : ∀ g,v.ownBlock = some g → B < g := fun g hg => by
 have:=(h.lt g hg).1
 have:=own_not h hb hne g hg
 omega
theorem GSt.fin (h : GSt w W db tb s va vc vs) : ∃ Aa ca Ac nc cc As cs,va = .slice Aa s.ans.length ca ∧ vc = .slice Ac nc cc ∧ vs = .slice As s.shw.length cs ∧
  ∀ W2,W2=(((((W.setCell ⟨w.heap.size,0,none⟩ (.string s.resp)).setCell ⟨w.heap.size,1,none⟩ (.int .i64 s.dep)).setCell ⟨w.heap.size,2,none⟩ (.int .i64 s.day)).setCell ⟨w.heap.size,3,none⟩ va).setCell ⟨w.heap.size,4,none⟩ vc).setCell ⟨w.heap.size,5,none⟩ vs →
   StmE w db (.returned (.agg #[.string s.resp,.int .i64 s.dep,.int .i64 s.day,va,vc,vs])) W2 ∧ Blk W2 w.heap.size 29 #[.string s.resp,.int .i64 s.dep,.int .i64 s.day,va,vc,vs]:=by
 obtain ⟨Aa,ca,rfl⟩:=own_slice h.oa
 obtain ⟨As,cs,rfl⟩:=own_slice h.os
 obtain ⟨Ac,nc,cc,rfl,-⟩:=id h.cc
 refine ⟨Aa,ca,Ac,nc,cc,As,cs,rfl,rfl,rfl,fun W2 hW2 => ?_⟩
 have hc:Chg W W2 (fun q => q=w.heap.size):=by
  rw [hW2]
  exact Chg.setCell (Chg.setCell (Chg.setCell (Chg.setCell (Chg.setCell (Chg.setCell (Chg.refl W (fun q => q=w.heap.size)) ⟨w.heap.size,0,none⟩ (fun _ => rfl) _) ⟨w.heap.size,1,none⟩ (fun _ => rfl) _) ⟨w.heap.size,2,none⟩ (fun _ => rfl) _) ⟨w.heap.size,3,none⟩ (fun _ => rfl) _) ⟨w.heap.size,4,none⟩ (fun _ => rfl) _) ⟨w.heap.size,5,none⟩ (fun _ => rfl) _
 have hb:Blk W2 w.heap.size 29 #[.string s.resp,.int .i64 s.dep,.int .i64 s.day,.slice Aa s.ans.length ca,.slice Ac nc cc,.slice As s.shw.length cs]:=by
  rw [hW2]
  exact (((((h.res.set_ 0 _).set_ 1 _).set_ 2 _).set_ 3 _).set_ 4 _).set_ 5 _
 have hs:=hc.size
 have h1:=h.dlt
 have h2:=h.tlt
 have l1:=h.blk.lt
 refine ⟨⟨s,Aa,_,ca,Ac,nc,cc,As,_,cs,rfl,⟨((AnssAt.of_own h.oa).keep fun q hq => hc.block q hq.2 (by omega)).mono fun q hq => ⟨by omega,by omega⟩,(h.cc.keep fun q hq => hc.block q (by omega) (by omega)).mono fun q hq => ⟨by omega,by omega⟩,((ShwsAt.of_own h.os).keep fun q hq => hc.block q hq.2 (by omega)).mono fun q hq => ⟨by omega,by omega⟩⟩,h.sm,h.dc.keep fun q hq => hc.block q (by have:=h.dc.lt; omega) (by omega),?_⟩,hb⟩
 exact ⟨hc.os.trans h.gw.os,hc.tape.trans h.gw.tape,hc.output.trans h.gw.output,Nat.le_trans h.gw.size hs,fun q hq hne => (hc.block q (Nat.lt_of_lt_of_le hq h.gw.size) (by omega)).trans (h.gw.block q hq hne)⟩
end
def IdxS (x : Shw) (L : List Shw) (w : World) (e : Ending) (w' : World) : Prop := ∃ k : Int,e = .returned (.int .i64 k) ∧ (0 ≤ k ↔ x ∈ L) ∧ -1 ≤ k ∧ k ≤ 1000000 ∧ Below w.heap.size w w'
def CtsS (x : Shw) (L : List Shw) (w : World) (e : Ending) (w' : World) : Prop := ∃ b : Bool,e = .returned (.bool b) ∧ (b = true ↔ x ∈ L) ∧ Below w.heap.size w w'
theorem shwAt_none {L : List Shw} {x : Shw} (h : ∀ q,q < L.length → shwAt L q ≠ x) : x ∉ L := fun hx => by
 obtain ⟨j,hj,rfl⟩:=List.getElem_of_mem hx
 refine h j hj ?_
 unfold shwAt
 rw [List.getD_eq_getElem?_getD,List.getElem?_eq_getElem hj]
 rfl
set_option maxRecDepth 100000 in
set_option maxHeartbeats 2000000 in
theorem q_IndexS (va : Value) (x : Shw) (L : List Shw) (w : World) (ha : ShwsAt w (· < w.heap.size) va L) (hl : L.length ≤ 1000000) :
    Calls Tryz.prog 73 #[va,.agg #[.string x.field,.string x.role]] w (IdxS x L w):=by
  obtain ⟨A,n,c,rfl,hn,hnc,hA⟩:=ha
  obtain ⟨f1,t1⟩:=x
  have n1:n ≤ 1000000:=by omega
  have HA:=Lib.hid hA
  have HN:=Lib.hid hn
  clear hA hn hl
  go_enter Tryz.func73,Tryz.ntmps73
  go_wp2_with fail
  go_loopw [5,8] (fun v5 v8 wr => ∃ i:Nat,i ≤ n ∧ v8=.int .i64 (i:Int) ∧ (∀ q,q < i → shwAt L q ≠ ⟨f1,t1⟩) ∧ Below w.heap.size w wr ∧ Blk wr w.heap.size 73 #[.string f1,.string t1]) (fun _ v8 _ => n - (intOf v8).toNat)
  case atStart => exact ⟨0,by omega,rfl,fun q hq => absurd hq (Nat.not_lt_zero _),(Below.refl _ _).alloc (Nat.le_refl _) _,Blk.new _ _ _⟩
  case round =>
    obtain ⟨i,hi,rfl,hne,hbr,hbk⟩:=hrel
    rename World => wr
    have HE:=Lib.hid hne
    have HBR:=Lib.hid hbr
    have HBK:=Lib.hid hbk
    have hsz:=hbr.size
    have hlt0:=hbk.lt
    clear hne hbr hbk
    by_cases hlt:i < n
    · obtain ⟨b1,o1,rfl,hS1,hc1⟩:=HA.out (by omega)
      obtain ⟨x0,x1⟩:=hc1 i hlt
      obtain ⟨ga,hga⟩:∃ g,shwAt L i=g:=⟨_,rfl⟩
      rw [hga] at x0 x1
      have hmem:ga ∈ L:=hga ▸ shwAt_mem (by have:=HN.out; omega)
      obtain ⟨f2,t2⟩:=ga
      have e0:wr.cell? ⟨b1,o1+i*2,none⟩=_:=(HBR.out.cell (p:=⟨b1,o1+i*2,none⟩) hS1).trans x0
      have e1:wr.cell? ⟨b1,o1+i*2+1,none⟩=_:=(HBR.out.cell (p:=⟨b1,o1+i*2+1,none⟩) hS1).trans x1
      have r0:wr.cell? ⟨w.heap.size,0,none⟩=some (.string f1):=(HBK.out.cell 0).trans rfl
      have r1:wr.cell? ⟨w.heap.size,1,none⟩=some (.string t1):=(HBK.out.cell 1).trans rfl
      have HGA:=Lib.hid hga
      have HME:=Lib.hid hmem
      have zi:(i:Int) < (n:Int):=by omega
      have z0:(0:Int) ≤ (i:Int):=by omega
      have hyes:(f1.toList == f2.toList)=true → (t1.toList == t2.toList)=true → (⟨f1,t1⟩:Shw) ∈ L:=fun h0 h1 => by
        rw [← bytes_of h0,← bytes_of h1]; exact HME.out
      have hno:((f1.toList == f2.toList) && (t1.toList == t2.toList))=false → ∀ q,q < i+1 → shwAt L q ≠ ⟨f1,t1⟩:=fun h q hq => by
        by_cases e:q=i
        · subst e
          rw [HGA.out]
          intro h2
          injection h2 with i0 i1
          subst i0 i1
          simp at h
        · exact HE.out q (by omega)
      have HYES:=Lib.hid hyes
      have HNO:=Lib.hid hno
      clear x0 x1 hga hc1 hyes hno hmem
      cases k0:(f1.toList == f2.toList) <;> cases k1:(t1.toList == t2.toList)
      all_goals first
        | (have hff:=HNO.out
           rw [k0,k1] at hff
           have HFF:=Lib.hid (hff rfl)
           clear hff HNO HYES
           go_upto_region 4 with fail
           go_quiet (fail)
           go_wp2_with fail
           go_roundw
           case measure => simp [intOf]; omega
           case rel => exact ⟨i+1,by omega,by go_num,HFF.out,below_drewN HBR.out _,HBK.out⟩)
        | (have HFF:=Lib.hid (HYES.out k0 k1)
           clear HNO HYES
           go_upto_region 4 with fail
           go_quiet (fail)
           go_wp2_with fail
           go_ret
           exact ⟨(i:Int),rfl,⟨fun _ => HFF.out,fun _ => by omega⟩,by omega,by omega,below_drewN HBR.out _⟩)
    · have zi:¬ (i:Int) < (n:Int):=by omega
      have he:(⟨f1,t1⟩:Shw) ∉ L:=shwAt_none (fun q hq => HE.out q (by have:=HN.out; omega))
      have HEQ:=Lib.hid he
      clear he
      go_wp2_with fail
      go_ret
      exact ⟨-1,rfl,⟨fun h => absurd h (by decide),fun h => absurd h HEQ.out⟩,by decide,by decide,HBR.out⟩
set_option maxRecDepth 100000 in
set_option maxHeartbeats 2000000 in
theorem q_ContainsS (va : Value) (x : Shw) (L : List Shw) (w : World) (ha : ShwsAt w (· < w.heap.size) va L) (hl : L.length ≤ 1000000) :
  Calls Tryz.prog 37 #[va,.agg #[.string x.field,.string x.role]] w (CtsS x L w):=by
 have hb0:Below w.heap.size w (w.alloc (.cells #[.string x.field,.string x.role] 73)):=(Below.refl _ _).alloc (Nat.le_refl _) _
 have hv:ShwsAt (w.alloc (.cells #[.string x.field,.string x.role] 73)) (· < (w.alloc (.cells #[.string x.field,.string x.role] 73)).heap.size) va L:=(ha.keep fun b hb => Below.heap_alloc w _ b hb).mono fun b hb => Nat.lt_of_lt_of_le hb hb0.size
 obtain ⟨A,n,c,rfl,hn,hnc,hA⟩:=ha
 have HV:=Lib.hid hv
 have HB:=Lib.hid hb0
 clear hv hb0 hA hn
 go_enter Tryz.func37,Tryz.ntmps37
 go_wp2_with (go_at_call 73; refine (q_IndexS _ x L _ HV.out hl).mono ?_; rintro e w' ⟨k,rfl,hk,h1,h2,hb⟩; have HK:=Lib.hid hk; have HB2:=Lib.hid hb; clear hk hb)
 go_ret
 exact ⟨_,rfl,⟨fun h => HK.out.1 (by simpa using h),fun h => by simpa using HK.out.2 h⟩,HB.out.trans (HB2.out.mono HB.out.size)⟩
def AwkO (w : World) (e : Ending) (w' : World) : Prop := e = .returned (.bool true) ∧ Below w.heap.size w w'
theorem below_al' (w : World) (o : Obj) : Below w.heap.size w (w.alloc o) := (Below.refl _ _).alloc (Nat.le_refl _) o
theorem StmSm.args {s : Stm} (h : StmSm s) : ∀ t ∈ s.cond,t.args.length ≤ 1000000 := fun t ht => by
 have:=(h.cond t ht).2.2.2.2
 omega
theorem bare_at {W : World} {S : Nat → Prop} (r : ByteArray) : StmAt W S (.slice none 0 0) (.slice none 0 0) (.slice none 0 0) ⟨r,0,0,[],[],[]⟩ :=
 ⟨⟨none,0,0,rfl,rfl,Nat.le_refl _,fun h => absurd h (Nat.lt_irrefl 0)⟩,⟨none,0,0,rfl,rfl,Nat.le_refl _,fun h => absurd h (Nat.lt_irrefl 0)⟩,⟨none,0,0,rfl,rfl,Nat.le_refl _,fun h => absurd h (Nat.lt_irrefl 0)⟩⟩
section
variable {P : Program} (w : World) (t e : TypeId) (i : TypeInfo) (size : Nat)
theorem run_slice_hi (ht : P.underlying t = some (.slice e)) (hi : P.info? e = some i) (A : Option Addr) (n c hg : Nat) (h2 : hg ≤ c) (y : Int) (hy : y = (hg : Int)) :
  (Instr.slice t (.slice A n c) none (some (.int .i64 y)) none).run P w=.ok (.slice A hg c) w:=by
 subst hy
 have e1:(0:Int) ≤ (hg:Int) ∧ (hg:Int) ≤ (c:Int):=by omega
 simp [Instr.slice,run_underlying ht,Instr.sliceBounds,Instr.sliceBound,asIntOf,sizeOf,typeInfo,hi,go_sem,h2]
end
end Go.Proofs.YtgdngfdeeadlnaaGreatDoor
