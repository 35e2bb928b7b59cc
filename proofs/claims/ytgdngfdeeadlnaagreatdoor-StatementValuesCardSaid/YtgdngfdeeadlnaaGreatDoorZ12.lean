/- Contracts: the options of a field, the program's and the reference's. And more. -/
import Derived.Test.YtgdngfdeeadlnaaGreatDoorZ04
import Derived.Test.YtgdngfdeeadlnaaGreatDoorZ11
import Derived.Lib.Fields
import Derived.Test.YtgdngfdeeadlnaaGreatDoorZ03
import Derived.Test.YtgdngfdeeadlnaaGreatDoorShelfF
set_option linter.unusedVariables false
set_option linter.unusedSimpArgs false
namespace Go.Proofs.YtgdngfdeeadlnaaGreatDoor
open Go.RowKit Num
theorem infoTx : (Tryz.prog.info? 9).map (fun i => (i.zero,i.size,i.bytes)) = some (some (.string ⟨#[]⟩),1,16) := by kernel_rfl
theorem str_ne {s : ByteArray} (h0 : ¬ s.size = 0) : (s.toList == []) = false ∧ (!s.toList.isEmpty) = true ∧ ¬ s.toList = [] := by
 have z1:(s.toList == [])=false:=by
  rw [ByteArray.toList_eq]
  cases hl:s.data.toList with
  | nil => exact absurd (by rw [← blOf_len]; show s.data.toList.length=0; rw [hl]; rfl) h0
  | cons a r => rfl
 have z2:(!s.toList.isEmpty)=true:=by
  rw [ByteArray.toList_eq]
  cases hl:s.data.toList with
  | nil => exact absurd (by rw [← blOf_len]; show s.data.toList.length=0; rw [hl]; rfl) h0
  | cons a r => rfl
 exact ⟨z1,z2,by simpa using z1⟩
theorem str_nil {s : ByteArray} (h0 : s.size = 0) : s = ⟨#[]⟩ := blOf_inj (List.eq_nil_of_length_eq_zero (by rw [blOf_len]; exact h0))
theorem bsOf_bl (s : ByteArray) : bsOf (blOf s) = s := bsOf_blOf s
theorem optGood_step {L : List ByteArray} {k : Nat} (h : optGood L k) (h1 : 1 ≤ (L.getD k ⟨#[]⟩).size) (h2 : (L.getD k ⟨#[]⟩).size ≤ 256) (h3 : ∀ j,j < k → L.getD j ⟨#[]⟩ ≠ L.getD k ⟨#[]⟩) : optGood L (k + 1) := fun i hi => by
 by_cases e:i=k
 ·subst e; exact ⟨h1,h2,h3⟩
 ·exact h i (by omega)
theorem optsB_false {L : List ByteArray} {k : Nat} (hk : k < L.length) (h : ¬ (1 ≤ (L.getD k ⟨#[]⟩).size ∧ (L.getD k ⟨#[]⟩).size ≤ 256 ∧ ∀ j,j < k → L.getD j ⟨#[]⟩ ≠ L.getD k ⟨#[]⟩)) : optsB L = false :=
 decide_eq_false fun hg => h (hg.1 k hk)
theorem optsB_end {L : List ByteArray} (h : optGood L L.length) : optsB L = decide (1 ≤ L.length ∧ L.length ≤ 16) := by
 unfold optsB
 by_cases e:1 ≤ L.length ∧ L.length ≤ 16
 ·rw [decide_eq_true e]; exact decide_eq_true ⟨h,e⟩
 ·rw [decide_eq_false e]; exact decide_eq_false fun hg => e hg.2
theorem strs_head {w : World} {b off n c : Nat} {L : List ByteArray} (hc : ∀ k,k < n → w.cell? ⟨b,off + k,none⟩ = some (.string (L.getD k ⟨#[]⟩))) (hn : n = L.length) (hb : b < w.heap.size) (k : Nat) (hk : k ≤ n) :
  StrsAt' w (.slice (some ⟨b,off,none⟩) k c) ((L.take k).map blOf):=by
 refine ⟨b,off,k,c,rfl,by simp; omega,hb,fun j hj => ?_⟩
 rw [hc j (by omega)]
 have e:((L.take k).map blOf).getD j []=blOf (L.getD j ⟨#[]⟩):=by
  rw [List.getD_eq_getElem?_getD,List.getElem?_map,List.getElem?_take,if_pos hj,List.getElem?_eq_getElem (by omega),List.getD_eq_getElem?_getD,List.getElem?_eq_getElem (by omega)]
  rfl
 rw [e,bsOf_bl]
theorem head_has {L : List ByteArray} {k : Nat} (hk : k < L.length) {s : ByteArray} : ((L.take k).map blOf).contains (blOf s) = true ↔ ∃ j,j < k ∧ L.getD j ⟨#[]⟩ = s := by
 rw [List.contains_iff_mem,List.mem_map]
 constructor
 ·rintro ⟨x,hx,he⟩
  obtain ⟨j,hj,rfl⟩:=List.getElem_of_mem hx
  rw [List.length_take] at hj
  refine ⟨j,by omega,?_⟩
  rw [List.getD_eq_getElem?_getD,List.getElem?_eq_getElem (by omega)]
  rw [List.getElem_take] at he
  exact blOf_inj he
 ·rintro ⟨j,hj,rfl⟩
  refine ⟨L.getD j ⟨#[]⟩,?_,rfl⟩
  rw [List.getD_eq_getElem?_getD,List.getElem?_eq_getElem (by omega)]
  show L[j] ∈ L.take k
  rw [List.mem_take_iff_getElem]
  exact ⟨j,by omega,rfl⟩
set_option maxRecDepth 100000 in
set_option maxHeartbeats 2000000 in
theorem f_options (v : Value) (L : List ByteArray) (S : Nat → Prop) (w : World) (hv : TxsAt w S v L) (hS : ∀ b,S b → b < w.heap.size) (hl : L.length ≤ 1000000) (hs : ∀ k,k < L.length → (L.getD k ⟨#[]⟩).size ≤ 9223372036854775807) :
  Calls Tryz.prog 108 #[v] w fun e w' => e=.returned (.bool (optsB L)) ∧ w=w':=by
 obtain ⟨A,n,c,rfl,hn,hnc,hc⟩:=hv
 obtain ⟨i0,hi,hz0,hz1,hz2⟩:=info_parts infoTx
 have hsl:=fun (W:World) (i:Nat) (h:i ≤ c) => run_slice_hi (P:=Tryz.prog) W 41 9 i0 Tryz.underlying41 hi A n c i h (i:Int) rfl
 have HSL:=Lib.hid hsl
 have HC:=Lib.hid hc
 have HN:=Lib.hid hn
 have HSS:=Lib.hid hs
 have HS:=Lib.hid hS
 have hn1:n ≤ 1000000:=by omega
 clear hsl hc hn hs hS hl hi hz0 hz1 hz2
 go_enter Tryz.func108,Tryz.ntmps108
 go_wp2_with fail
 go_loopw [7] (fun v7 wr => ∃ k:Nat,k ≤ n ∧ v7=.int .i64 (k:Int) ∧ optGood L k ∧ w=wr) (fun v7 _ => n - (intOf v7).toNat)
 case atStart => exact ⟨0,by omega,rfl,fun i hi => absurd hi (Nat.not_lt_zero _),rfl⟩
 case round =>
  obtain ⟨k,hk,rfl,hg,rfl⟩:=hrel
  have HG:=Lib.hid hg
  clear hg
  by_cases hlt:k < n
  ·obtain ⟨b,off,rfl,hSb,hcell⟩:=HC.out (by omega)
   have hx:=hcell k hlt
   have hst:=strs_head (c:=c) hcell HN.out (HS.out b hSb) k hk
   have hsz:=HSS.out k (by have:=HN.out; omega)
   have hfail:∀ (h:¬ (1 ≤ (L.getD k ⟨#[]⟩).size ∧ (L.getD k ⟨#[]⟩).size ≤ 256 ∧ ∀ j,j < k → L.getD j ⟨#[]⟩ ≠ L.getD k ⟨#[]⟩)),optsB L=false:=fun h => optsB_false (by have:=HN.out; omega) h
   have hgo:=optGood_step HG.out
   have hhas:=fun s => head_has (L:=L) (k:=k) (by have:=HN.out; omega) (s:=s)
   have hsl1:=fun (W:World) => HSL.out W k (by omega)
   obtain ⟨x,hxe⟩:∃ x,L.getD k ⟨#[]⟩=x:=⟨_,rfl⟩
   rw [hxe] at hx hsz hfail hgo
   have HST:=Lib.hid hst
   have HF:=Lib.hid hfail
   have HGO:=Lib.hid hgo
   have HH:=Lib.hid hhas
   have HXE:=Lib.hid hxe
   clear hst hfail hgo hhas hxe hcell
   have zi:(k:Int) < (n:Int):=by omega
   have z0:(0:Int) ≤ (k:Int):=by omega
   by_cases h0:x.size=0
   ·have he:=HF.out (by omega)
    have HE:=Lib.hid he
    obtain rfl:=str_nil h0
    clear he h0
    go_wp2_with fail
    go_ret
    exact ⟨by rw [HE.out]; rfl,rfl⟩
   ·obtain ⟨y1,y2,y3⟩:=str_ne h0
    by_cases h1:x.size ≤ 256
    ·have q1:¬ (256:Int) < (x.size:Int):=by omega
     go_wp2_with fail
     refine (s_Contains _ _ x _ HST.out (by simp; omega)).mono ?_
     rintro e w1 ⟨rfl,rfl⟩
     by_cases hcn:((L.take k).map blOf).contains (blOf x)=true
     ·have he:=HF.out (fun h => by
       obtain ⟨j,hj,e⟩:=(HH.out x).1 hcn
       exact h.2.2 j hj e)
      have HE:=Lib.hid he
      rw [hcn]
      clear he hcn
      go_wp2_with fail
      go_ret
      exact ⟨by rw [HE.out]; rfl,rfl⟩
     ·have hgg:=HGO.out (by omega) h1 (fun j hj e => hcn ((HH.out x).2 ⟨j,hj,e⟩))
      have HGG:=Lib.hid hgg
      have hcn':((L.take k).map blOf).contains (blOf x)=false:=by simpa using hcn
      rw [hcn']
      clear hgg hcn hcn'
      go_wp2_with fail
      go_roundw
      case measure => simp [intOf]; omega
      case rel => exact ⟨k+1,by omega,by go_num,HGG.out,by first | rfl | trivial⟩
    ·have q1:(256:Int) < (x.size:Int):=by omega
     have he:=HF.out (fun h => h1 h.2.1)
     have HE:=Lib.hid he
     clear he
     go_wp2_with fail
     go_ret
     exact ⟨by rw [HE.out]; rfl,rfl⟩
  ·have zi:¬ (k:Int) < (n:Int):=by omega
   have he:optsB L=decide (1 ≤ n ∧ n ≤ 16):=by
    have h1:=HG.out
    rw [show k=L.length by have:=HN.out; omega] at h1
    rw [optsB_end h1,HN.out]
   have HE:=Lib.hid he
   clear he
   by_cases h1:1 ≤ n
   ·have q1:(1:Int) ≤ (n:Int):=by omega
    by_cases h2:n ≤ 16
    ·have q2:(n:Int) ≤ 16:=by omega
     go_wp2_with fail
     go_ret
     exact ⟨by rw [HE.out,decide_eq_true ⟨h1,h2⟩]; rfl,rfl⟩
    ·have q2:¬ (n:Int) ≤ 16:=by omega
     go_wp2_with fail
     go_ret
     exact ⟨by rw [HE.out,decide_eq_false (fun h => h2 h.2)]; rfl,rfl⟩
   ·have q1:¬ (1:Int) ≤ (n:Int):=by omega
    go_wp2_with fail
    go_ret
    exact ⟨by rw [HE.out,decide_eq_false (fun h => h1 h.1)]; rfl,rfl⟩
set_option maxRecDepth 100000 in
set_option maxHeartbeats 2000000 in
theorem r_options (v : Value) (L : List ByteArray) (S : Nat → Prop) (w : World) (hv : TxsAt w S v L) (hS : ∀ b,S b → b < w.heap.size) (hl : L.length ≤ 1000000) (hs : ∀ k,k < L.length → (L.getD k ⟨#[]⟩).size ≤ 9223372036854775807) :
  Calls Tryz.prog 86 #[v] w fun e w' => e=.returned (.bool (optsB L)) ∧ w=w':=by
 obtain ⟨A,n,c,rfl,hn,hnc,hc⟩:=hv
 obtain ⟨i0,hi,hz0,hz1,hz2⟩:=info_parts infoTx
 have hsl:=fun (W:World) (i:Nat) (h:i ≤ c) => run_slice_hi (P:=Tryz.prog) W 41 9 i0 Tryz.underlying41 hi A n c i h (i:Int) rfl
 have HSL:=Lib.hid hsl
 have HC:=Lib.hid hc
 have HN:=Lib.hid hn
 have HSS:=Lib.hid hs
 have HS:=Lib.hid hS
 have hn1:n ≤ 1000000:=by omega
 clear hsl hc hn hs hS hl hi hz0 hz1 hz2
 go_enter Tryz.func86,Tryz.ntmps86
 go_wp2_with fail
 go_loopw [9] (fun v9 wr => ∃ k:Nat,k ≤ n ∧ v9=.int .i64 (k:Int) ∧ optGood L k ∧ w=wr) (fun v9 _ => n - (intOf v9).toNat)
 case atStart => exact ⟨0,by omega,rfl,fun i hi => absurd hi (Nat.not_lt_zero _),rfl⟩
 case round =>
  obtain ⟨k,hk,rfl,hg,rfl⟩:=hrel
  have HG:=Lib.hid hg
  clear hg
  by_cases hlt:k < n
  ·obtain ⟨b,off,rfl,hSb,hcell⟩:=HC.out (by omega)
   have hx:=hcell k hlt
   have hsz:=HSS.out k (by have:=HN.out; omega)
   have hfail:∀ (h:¬ (1 ≤ (L.getD k ⟨#[]⟩).size ∧ (L.getD k ⟨#[]⟩).size ≤ 256 ∧ ∀ j,j < k → L.getD j ⟨#[]⟩ ≠ L.getD k ⟨#[]⟩)),optsB L=false:=fun h => optsB_false (by have:=HN.out; omega) h
   have hgo:=optGood_step HG.out
   have hsl1:=fun (W:World) => HSL.out W k (by omega)
   obtain ⟨x,hxe⟩:∃ x,L.getD k ⟨#[]⟩=x:=⟨_,rfl⟩
   rw [hxe] at hx hsz hfail hgo
   have HCL:=Lib.hid hcell
   have HF:=Lib.hid hfail
   have HGO:=Lib.hid hgo
   have HXE:=Lib.hid hxe
   clear hfail hgo hxe hcell
   have zi:(k:Int) < (n:Int):=by omega
   have z0:(0:Int) ≤ (k:Int):=by omega
   by_cases h0:x.size < 1
   ·have q0:(x.size:Int) < 1:=by omega
    have he:=HF.out (by omega)
    have HE:=Lib.hid he
    clear he
    go_wp2_with fail
    go_ret
    exact ⟨by rw [HE.out]; rfl,rfl⟩
   ·have q0:¬ (x.size:Int) < 1:=by omega
    by_cases h1:x.size ≤ 256
    ·have q1:¬ (256:Int) < (x.size:Int):=by omega
     go_wp2_with fail
     go_loopw [26] (fun v26 wr => ∃ i:Nat,i ≤ k ∧ v26=.int .i64 (i:Int) ∧ (∀ j,j < i → L.getD j ⟨#[]⟩ ≠ x) ∧ w=wr) (fun v26 _ => k - (intOf v26).toNat)
     case atStart => exact ⟨0,by omega,rfl,fun i hi => absurd hi (Nat.not_lt_zero _),rfl⟩
     case round =>
      obtain ⟨i,hik,rfl,hne,rfl⟩:=hrel
      have HNE:=Lib.hid hne
      clear hne
      by_cases hlt2:i < k
      ·have hy:=HCL.out i (by omega)
       obtain ⟨y,hye⟩:∃ y,L.getD i ⟨#[]⟩=y:=⟨_,rfl⟩
       rw [hye] at hy
       have HYE:=Lib.hid hye
       clear hye
       have zj:(i:Int) < (k:Int):=by omega
       have z2:(0:Int) ≤ (i:Int):=by omega
       by_cases hxy:y=x
       ·have hq:(x.toList == y.toList)=true:=seq_true hxy.symm
        have he:=HF.out (fun h => h.2.2 i hlt2 (HYE.out.trans hxy))
        have HE:=Lib.hid he
        clear he hxy
        go_wp2_with fail
        go_ret
        exact ⟨by rw [HE.out]; rfl,rfl⟩
       ·have hq:(x.toList == y.toList)=false:=seq_false (fun h => hxy (blOf_inj h).symm)
        have HXY:=Lib.hid hxy
        clear hxy
        go_wp2_with fail
        go_roundw
        case measure => simp [intOf]; omega
        case rel => exact ⟨i+1,by omega,by go_num,(fun j hj => by
         by_cases e:j=i
         ·subst e; rw [HYE.out]; exact HXY.out
         ·exact HNE.out j (by omega)),(by first | rfl | trivial)⟩
      ·have zj:¬ (i:Int) < (k:Int):=by omega
       have hgg:=HGO.out (by omega) h1 (fun j hj => HNE.out j (by omega))
       have HGG:=Lib.hid hgg
       clear hgg
       go_wp2_with fail
       go_roundw
       case measure => simp [intOf]; omega
       case rel => exact ⟨k+1,by omega,by go_num,HGG.out,by first | rfl | trivial⟩
    ·have q1:(256:Int) < (x.size:Int):=by omega
     have he:=HF.out (fun h => h1 h.2.1)
     have HE:=Lib.hid he
     clear he
     go_wp2_with fail
     go_ret
     exact ⟨by rw [HE.out]; rfl,rfl⟩
  ·have zi:¬ (k:Int) < (n:Int):=by omega
   have he:optsB L=decide (1 ≤ n ∧ n ≤ 16):=by
    have h1:=HG.out
    rw [show k=L.length by have:=HN.out; omega] at h1
    rw [optsB_end h1,HN.out]
   have HE:=Lib.hid he
   clear he
   by_cases h1:1 ≤ n
   ·have q1:(1:Int) ≤ (n:Int):=by omega
    by_cases h2:n ≤ 16
    ·have q2:(n:Int) ≤ 16:=by omega
     go_wp2_with fail
     go_ret
     exact ⟨by rw [HE.out,decide_eq_true ⟨h1,h2⟩]; rfl,rfl⟩
    ·have q2:¬ (n:Int) ≤ 16:=by omega
     go_wp2_with fail
     go_ret
     exact ⟨by rw [HE.out,decide_eq_false (fun h => h2 h.2)]; rfl,rfl⟩
   ·have q1:¬ (1:Int) ≤ (n:Int):=by omega
    go_wp2_with fail
    go_ret
    exact ⟨by rw [HE.out,decide_eq_false (fun h => h1 h.1)]; rfl,rfl⟩
set_option maxHeartbeats 1000000 in
theorem r_inner (n : Nat) (w : World) (hn : n < 256) :
  Calls Tryz.prog 117 #[.int .u8 (n:Int)] w fun e w' => e=.returned (.bool (inWN n)) ∧ w=w':=by
 by_cases h1:97 ≤ n
 ·by_cases h2:n ≤ 122
  ·have e:inWN n=true:=by simp [inWN,lowN,h1,h2]
   rw [e]
   go_enter Tryz.func117,Tryz.ntmps117
   go_wp2_with fail
   go_ret
   exact ⟨rfl,rfl⟩
  ·have e:inWN n=false:=by
    have q:¬ n ≤ 57:=by omega
    have q2:¬ n=95:=by omega
    simp [inWN,lowN,h2,q,q2]
   have c1:(48:Int) ≤ (n:Int):=by omega
   have c2:¬ (n:Int) ≤ 57:=by omega
   have c3:¬ (n:Int)=95:=by omega
   have c3b:((n:Int) == 95)=false:=by simp; omega
   have c4:¬ (n:Int) ≤ 122:=by omega
   rw [e]
   go_enter Tryz.func117,Tryz.ntmps117
   go_wp2_with fail
   go_ret
   exact ⟨rfl,rfl⟩
 ·have z1:¬ (97:Int) ≤ (n:Int):=by omega
  by_cases h3:n=95
  ·subst h3
   go_enter Tryz.func117,Tryz.ntmps117
   go_wp2_with fail
   go_ret
   exact ⟨rfl,rfl⟩
  ·have z3:¬ (n:Int)=95:=by omega
   have z3b:((n:Int) == 95)=false:=by simp; omega
   by_cases h4:48 ≤ n
   ·by_cases h5:n ≤ 57
    ·have e:inWN n=true:=by simp [inWN,h4,h5]
     rw [e]
     go_enter Tryz.func117,Tryz.ntmps117
     go_wp2_with fail
     go_ret
     exact ⟨rfl,rfl⟩
    ·have e:inWN n=false:=by simp [inWN,lowN,h1,h5,h3]
     have z5:¬ (n:Int) ≤ 57:=by omega
     rw [e]
     go_enter Tryz.func117,Tryz.ntmps117
     go_wp2_with fail
     go_ret
     exact ⟨rfl,rfl⟩
   ·have e:inWN n=false:=by simp [inWN,lowN,h1,h4,h3]
    have z4:¬ (48:Int) ≤ (n:Int):=by omega
    rw [e]
    go_enter Tryz.func117,Tryz.ntmps117
    go_wp2_with fail
    go_ret
    exact ⟨rfl,rfl⟩
def SpcOk (w : World) : Prop := Lib.TabIs Tryz.prog w "strings.asciiSpace" .u8 Lib.asciiSpaceTab
theorem spc_below {w w' : World} (h : SpcOk w) (hg : 0 < w.heap.size) (hb : Below w.heap.size w w') : SpcOk w' :=
 var?_below hb (by kernel_rfl) hg h
def resT : List UInt8 := [97,108,108,32,97,110,121,32,114,101,112,111,114,116,101,114,115,32,100,101,112,97,114,116,109,101,110,116,115,32,121,101,97,114,115,32,119,105,116,104,105,110,32,110,111,116,102,105,114,115,116,32,115,97,121,115,32,97,108,119,97,121,115,32,111,102]
theorem res_fields : Lib.fields resT = resB := by decide
theorem res_ascii : ∀ (j : Nat) b,resT[j]? = some b → b.toNat < 128 := by
 intro j b h
 have:∀ b ∈ resT,b.toNat < 128:=by decide
 exact this b (List.mem_of_getElem? h)
theorem r_words (w : World) (h : SpcOk w) : Calls Tryz.prog 118 #[.string (bsOf resT)] w fun e w' => ∃ v,e = .returned v ∧ StrsAt' w' v resB ∧ Below w.heap.size w w' := by
 refine (Tryz.strings_Fields (bsOf resT) w (by decide) (by simpa [bsOf] using res_ascii) h).mono ?_
 rintro e w' ⟨rfl,rfl⟩
 have e0:(bsOf resT).data.toList=resT:=by simp [bsOf]
 rw [e0,res_fields]
 refine ⟨_,rfl,⟨w.heap.size,0,_,_,rfl,rfl,by simp,fun k hk => ?_⟩,(Below.refl _ _).alloc (Nat.le_refl _) _⟩
 have hk':k < 10:=hk
 have hb:=Blk.new w 9 ((resB.map fun l => Value.string ⟨l.toArray⟩).toArray)
 refine (hb.cell (0+k)).trans ?_
 have:k=0 ∨ k=1 ∨ k=2 ∨ k=3 ∨ k=4 ∨ k=5 ∨ k=6 ∨ k=7 ∨ k=8 ∨ k=9:=by omega
 rcases this with rfl | rfl | rfl | rfl | rfl | rfl | rfl | rfl | rfl | rfl <;> rfl
set_option maxRecDepth 100000 in
set_option maxHeartbeats 1000000 in
theorem r_Name (s : ByteArray) (w : World) (hs : s.size ≤ 4294967296) (hsp : SpcOk w) :
  Calls Tryz.prog 85 #[.string s] w (BoolBel (nameB (blOf s)) w):=by
 by_cases h0:s.size=0
 ·have e:nameB (blOf s)=false:=by unfold nameB; rw [blOf_len]; simp [h0]
  obtain rfl:=(show s=⟨#[]⟩ from blOf_inj (List.eq_nil_of_length_eq_zero (by rw [blOf_len]; exact h0)))
  rw [e]
  clear e h0 hs
  go_enter Tryz.func85,Tryz.ntmps85
  go_wp2_with fail
  go_ret
  exact ⟨rfl,Below.refl _ _⟩
 ·have hpos:0 < s.size:=by omega
  have q1:¬ (s.size:Int) < 1:=by omega
  by_cases h32:s.size ≤ 32
  ·have q32:¬ (32:Int) < (s.size:Int):=by omega
   have g0:=blOf_get s 0 hpos
   by_cases hlo:(s[0]).toNat < 97
   ·have e:nameB (blOf s)=false:=by unfold nameB; rw [headD_get,g0,lowB_n]; simp [lowN]; intro _ _ h; omega
    have q97:((s[0]).toNat:Int) < 97:=by omega
    have HE:=Lib.hid e
    clear e g0 h0
    go_enter Tryz.func85,Tryz.ntmps85
    go_wp2_with fail
    go_ret
    exact ⟨by rw [HE.out]; rfl,Below.refl _ _⟩
   ·have q97:¬ ((s[0]).toNat:Int) < 97:=by omega
    by_cases hhi:122 < (s[0]).toNat
    ·have e:nameB (blOf s)=false:=by unfold nameB; rw [headD_get,g0,lowB_n]; simp [lowN]; intro _ _ h; omega
     have q122:(122:Int) < ((s[0]).toNat:Int):=by omega
     have HE:=Lib.hid e
     clear e g0 h0
     go_enter Tryz.func85,Tryz.ntmps85
     go_wp2_with fail
     go_ret
     exact ⟨by rw [HE.out]; rfl,Below.refl _ _⟩
    ·have q122:¬ (122:Int) < ((s[0]).toNat:Int):=by omega
     have ht:nameB (blOf s)=((blOf s).all inWB && !resB.contains (blOf s)):=by
      have hl:lowN (s[0]).toNat=true:=by simp [lowN]; omega
      unfold nameB
      rw [headD_get,g0,lowB_n,hl,blOf_len]
      have h1:1 ≤ s.size:=hpos
      simp only [h32,h1,decide_true,Bool.true_and,Bool.and_comm]
     have HT:=Lib.hid ht
     have HSP:=Lib.hid hsp
     clear ht g0 h0 hsp
     go_enter Tryz.func85,Tryz.ntmps85
     go_wp2_with fail
     go_loop [3,26] (fun _ i => ∃ k:Nat,k ≤ s.size ∧ i=.int .i64 k ∧ ∀ j,j < k → inWB ((blOf s).getD j 0)=true) (fun _ i => s.size - (intOf i).toNat)
     case atStart => exact ⟨0,by omega,rfl,fun j hj => absurd hj (Nat.not_lt_zero _)⟩
     case round =>
      obtain ⟨k,hk,rfl,hne⟩:=hrel
      have HNE:=Lib.hid hne
      clear hne
      by_cases hlt:k < s.size
      ·have gk:=blOf_get s k hlt
       have GK:=Lib.hid gk
       clear gk
       by_cases hi:inWN (s[k]).toNat=true
       ·have HI:=Lib.hid hi
        clear hi
        go_wp2_with (go_at_call 117; refine (r_inner _ _ (UInt8.toNat_lt _)).mono ?_; rintro e w' ⟨rfl,rfl⟩; rw [HI.out])
        go_round
        case rel => exact ⟨k+1,by omega,by go_num,fun j hj => by
         rcases Nat.lt_or_ge j k with h | h
         ·exact HNE.out j h
         ·rw [show j=k by omega,GK.out,inWB_n]; exact HI.out⟩
        case measure => simp [intOf]; omega
       ·have hi':inWN (s[k]).toNat=false:=by simpa using hi
        have HI:=Lib.hid hi'
        clear hi hi'
        go_wp2_with (go_at_call 117; refine (r_inner _ _ (UInt8.toNat_lt _)).mono ?_; rintro e w' ⟨rfl,rfl⟩; rw [HI.out])
        go_ret
        refine ⟨?_,Below.refl _ _⟩
        rw [HT.out,not_all_of (j:=k) (by rw [blOf_len]; exact hlt) (by rw [GK.out,inWB_n]; exact HI.out)]
        rfl
      ·have hkn:k=s.size:=by omega
       have hj0:¬ (k:Int) < (s.size:Int):=by omega
       have ha:=all_of (l:=blOf s) (p:=inWB) (fun j hj => HNE.out j (by rw [blOf_len] at hj; rw [hkn]; exact hj))
       have ht2:nameB (blOf s) = !resB.contains (blOf s):=by rw [HT.out,ha,Bool.true_and]
       have HT2:=Lib.hid ht2
       clear hkn ht2 ha
       go_wp2_with (go_at_call 118; go_loud (refine (r_words _ HSP.out).mono ?_; rintro e w1 ⟨v,rfl,⟨g,off,n,c,rfl,hn,hg,hc⟩,hb⟩; obtain rfl:n=10:=hn; have HC:=Lib.hid hc; clear hc))
       go_loop [5,37] (fun _ i => ∃ k:Nat,k ≤ 10 ∧ i=.int .i64 k ∧ ∀ j,j < k → resB.getD j [] ≠ blOf s) (fun _ i => 10 - (intOf i).toNat)
       case atStart => exact ⟨0,by omega,rfl,fun j hj => absurd hj (Nat.not_lt_zero _)⟩
       case round =>
        obtain ⟨k,hk,rfl,hne⟩:=hrel
        have HNE:=Lib.hid hne
        clear hne
        by_cases hlt:k < 10
        ·have hcell:=HC.out k hlt
         obtain ⟨x,hx⟩:∃ x,resB.getD k []=x:=⟨_,rfl⟩
         rw [hx] at hcell
         have HX:=Lib.hid hx
         clear hx
         by_cases hs:x=blOf s
         ·have e1:((bsOf x).toList == s.toList)=true:=seq_true (by rw [hs,bsOf_blOf])
          have hin:resB.contains (blOf s)=true:=by
           rw [← hs,← HX.out]
           exact List.contains_iff_mem.2 (by rw [List.getD_eq_getElem?_getD,List.getElem?_eq_getElem (show k < resB.length from hlt)]; exact List.getElem_mem _)
          have HI:=Lib.hid hin
          clear hs hin
          go_wp2_with fail
          go_ret
          exact ⟨by rw [HT2.out,HI.out]; rfl,hb⟩
         ·have e1:((bsOf x).toList == s.toList)=false:=seq_false (fun h => hs (by rw [blOf_bsOf] at h; exact h))
          have HS:=Lib.hid hs
          clear hs
          go_wp2_with fail
          go_round
          case rel => exact ⟨k+1,by omega,by go_num,fun j hj => by
           rcases Nat.lt_or_ge j k with h | h
           ·exact HNE.out j h
           ·rw [show j=k by omega,HX.out]; exact HS.out⟩
          case measure => simp [intOf]; omega
        ·have hkn:k=10:=by omega
         have hj0:¬ (k:Int) < 10:=by omega
         have hin:resB.contains (blOf s)=false:=by
          rw [Bool.eq_false_iff]
          intro h
          obtain ⟨j,hj,e⟩:=List.getElem_of_mem (List.contains_iff_mem.1 h)
          have h1:=HNE.out j (by rw [hkn]; exact hj)
          rw [List.getD_eq_getElem?_getD,List.getElem?_eq_getElem hj] at h1
          exact h1 e
         have HI:=Lib.hid hin
         clear hin
         subst hkn
         go_wp2_with fail
         go_ret
         exact ⟨by rw [HT2.out,HI.out]; rfl,hb⟩
  ·have e:nameB (blOf s)=false:=by unfold nameB; rw [blOf_len]; simp [h32]
   have q32:(32:Int) < (s.size:Int):=by omega
   have HE:=Lib.hid e
   clear e h0
   go_enter Tryz.func85,Tryz.ntmps85
   go_wp2_with fail
   go_ret
   exact ⟨by rw [HE.out]; rfl,Below.refl _ _⟩
end Go.Proofs.YtgdngfdeeadlnaaGreatDoor
