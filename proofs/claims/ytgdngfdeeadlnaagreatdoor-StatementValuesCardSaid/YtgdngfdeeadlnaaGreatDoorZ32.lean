/- Contracts: ref04.Int, ref04.Text: as the program's. And more. -/
import Derived.Test.YtgdngfdeeadlnaaGreatDoorZ23
import Derived.Test.YtgdngfdeeadlnaaGreatDoorZ14
import Derived.Maps.Own
import Derived.Maps.OwnSet
import Derived.Maps.Views
import Derived.StringKeys
set_option linter.unusedVariables false
set_option linter.unusedSimpArgs false
namespace Go.Proofs.YtgdngfdeeadlnaaGreatDoor
open Go.RowKit Num
theorem and_127 (c : Nat) (h : c < 256) : bits .and .u8 (c : Int) 127 = ((c % 128 : Nat) : Int) := by
 have h1:=Nat.and_two_pow_sub_one_eq_mod c 7
 have h2:∀ c:Fin 256,bits .and .u8 ((c.val:Nat):Int) 127=((c.val % 128:Nat):Int):=by decide +kernel
 exact h2 ⟨c,h⟩
theorem and_one (U : Nat) (h : U < 18446744073709551616) : bits .and .u64 (U : Int) 1 = ((U % 2 : Nat) : Int) := by
 show IntKind.u64.wrap ((BitVec.ofInt 64 (U:Int) &&& BitVec.ofInt 64 1).toNat:Int)=_
 rw [BitVec.toNat_and,BitVec.ofInt_natCast,BitVec.toNat_ofNat,Nat.mod_eq_of_lt (by omega),show (BitVec.ofInt 64 1).toNat=2 ^ 1 - 1 from rfl,Nat.and_two_pow_sub_one_eq_mod,IntKind.wrap_u64]
 omega
theorem not_half (U : Nat) (h : U < 18446744073709551616) : IntKind.i64.wrap (bits .xor .u64 IntKind.u64.max ((U / 2 : Nat) : Int)) = -((U / 2 : Nat) : Int) - 1 := by
 have e:bits .xor .u64 IntKind.u64.max ((U / 2:Nat):Int)=18446744073709551615 - ((U / 2:Nat):Int):=by
  show IntKind.u64.wrap ((BitVec.ofInt 64 IntKind.u64.max ^^^ BitVec.ofInt 64 ((U / 2:Nat):Int)).toNat:Int)=_
  have h1:BitVec.ofInt 64 IntKind.u64.max=BitVec.allOnes 64:=by decide +kernel
  rw [h1,BitVec.allOnes_xor,BitVec.toNat_not,BitVec.ofInt_natCast,BitVec.toNat_ofNat,Nat.mod_eq_of_lt (by omega),IntKind.wrap_u64]
  omega
 rw [e,IntKind.wrap_i64]
 omega
set_option maxRecDepth 100000 in
set_option maxHeartbeats 1000000 in
theorem r_Int (b : ByteArray) (p : Nat) (w : World) (hb : b.size ≤ 1000000) (hp : p ≤ b.size) : Calls Tryz.prog 52 #[.string b,.int .i64 (p : Int)] w (NumE b p w) := by
 have p0:¬ (p:Int) < 0:=by omega
 have p1:¬ (b.size:Int) < (p:Int):=by omega
 go_enter Tryz.func52,Tryz.ntmps52
 go_wp2_with fail
 go_loopw [7,8,9] (fun v7 v8 _ wr => ∃ i u:Nat,i ≤ 9 ∧ v8=.int .i64 (i:Int) ∧ v7=.int .u64 (u:Int) ∧ u < 128 ^ i ∧ p+i ≤ b.size ∧ numR 0 0 ((blOf b).drop p)=numR i u ((blOf b).drop (p+i)) ∧ w=wr) (fun _ v8 _ _ => 10 - (intOf v8).toNat)
 case atStart => exact ⟨0,0,by omega,rfl,rfl,by decide,by omega,rfl,rfl⟩
 case round =>
  obtain ⟨i,u,hi,rfl,rfl,hu,hpi,hR,rfl⟩:=hrel
  have HR:=Lib.hid hR
  have HU:=Lib.hid hu
  clear hR hu
  obtain ⟨q,hq⟩:∃ q,p+i=q:=⟨_,rfl⟩
  rw [hq] at hpi HR
  have hqi:(p:Int)+(i:Int)=(q:Int):=by omega
  have HQ:=Lib.hid hq
  clear hq
  by_cases hlt:q < b.size
  ·have z1:¬ (b.size:Int) ≤ (q:Int):=by omega
   have zq:(0:Int) ≤ (q:Int):=by omega
   have zr:(q:Int) < (b.size:Int):=by omega
   have hd:=drop_cons hlt
   rw [hd] at HR
   have hsucc:p+(i+1)=q+1:=by have:=HQ.out; omega
   obtain ⟨c,hc⟩:∃ c,b[q].toNat=c:=⟨_,rfl⟩
   have hc6:c < 256:=by rw [← hc]; exact b[q].toNat_lt
   have HSUC:=Lib.hid hsucc
   have HD:=Lib.hid hd
   clear hsucc hd
   by_cases hbad:(i=9 ∧ 1 < c) ∨ (0 < i ∧ c=0)
   ·have hr:numR i u (b[q] :: List.drop (q+1) (blOf b))=.error 4:=by
     show (if (i=9 ∧ 1 < b[q].toNat) ∨ (0 < i ∧ b[q].toNat=0) then _ else _)=_
     rw [hc,if_pos hbad]
    have HRB:=Lib.hid (HR.out.trans hr)
    clear hr HR HU
    by_cases h9:i=9 ∧ 1 < c
    ·have y1:((i:Int) == 9)=true:=by rw [beq_iff_eq]; omega
     have y2:(1:Int) < (b[q].toNat:Int):=by omega
     clear hc hbad h9
     go_wp2_with fail
     go_ret3
     exact NumE.bad HRB.out
    ·have y0:0 < i ∧ c=0:=by omega
     have y2:¬ (1:Int) < (b[q].toNat:Int):=by omega
     have y4:((b[q].toNat:Int) == 0)=true:=by rw [beq_iff_eq]; omega
     have y5:(0:Int) < (i:Int):=by omega
     clear hc hbad h9 y0
     by_cases h8:i=9
     ·have y1:((i:Int) == 9)=true:=by rw [beq_iff_eq]; omega
      clear h8
      go_wp2_with fail
      go_ret3
      exact NumE.bad HRB.out
     ·have y1:((i:Int) == 9)=false:=by rw [beq_eq_false_iff_ne]; omega
      clear h8
      go_wp2_with fail
      go_ret3
      exact NumE.bad HRB.out
   ·have hor:=or_u64 u c i HU.out (by omega)
    obtain ⟨U,hU⟩:∃ U,u+c % 128*128 ^ i=U:=⟨_,rfl⟩
    have hr:numR i u (b[q] :: List.drop (q+1) (blOf b))=if 128 ≤ c then numR (i+1) U (List.drop (q+1) (blOf b)) else .ok (U,i+1):=by
     show (if (i=9 ∧ 1 < b[q].toNat) ∨ (0 < i ∧ b[q].toNat=0) then _ else if 128 ≤ b[q].toNat then _ else _)=_
     rw [hc,if_neg hbad,hU]
    rw [hU,← hc] at hor
    have han:=and_127 c hc6
    rw [← hc] at han
    rw [Int.natCast_emod] at han
    have hcv:IntKind.u64.wrap ((b[q].toNat:Int) % (128:Nat))=(b[q].toNat:Int) % (128:Nat):=by rw [IntKind.wrap_u64]; omega
    have h7a:IntKind.i64.wrap (7*(i:Int))=7*(i:Int):=by rw [IntKind.wrap_i64]; omega
    have h7b:IntKind.u64.wrap (7*(i:Int))=7*(i:Int):=by rw [IntKind.wrap_u64]; omega
    have h7c:(7*(i:Int)).toNat=7*i:=by omega
    by_cases hmore:128 ≤ c
    ·rw [if_pos hmore] at hr
     have h9:i ≠ 9:=fun e => hbad (.inl ⟨e,by omega⟩)
     have hUl:U < 128 ^ (i+1):=by
      rw [← hU,Nat.pow_succ]
      have h3:c % 128*128 ^ i ≤ 127*128 ^ i:=Nat.mul_le_mul_right _ (by omega)
      have:=HU.out
      omega
     have HRB:=Lib.hid (HR.out.trans hr)
     have HUL:=Lib.hid hUl
     have y1:((i:Int) == 9)=false:=by rw [beq_eq_false_iff_ne]; omega
     have y3:(128:Int) ≤ (b[q].toNat:Int):=by omega
     have y4:((b[q].toNat:Int) == 0)=false:=by rw [beq_eq_false_iff_ne]; omega
     have hi8:i ≤ 8:=by omega
     clear hc hbad hr hU hUl h9 HR HU
     by_cases h0:0 < i
     ·have y5:(0:Int) < (i:Int):=by omega
      go_wp2_with fail
      go_roundw
      case measure => simp [intOf]; omega
      case rel => exact ⟨i+1,U,by omega,by go_num,rfl,HUL.out,by rw [HSUC.out]; omega,by rw [HSUC.out]; exact HRB.out,by first | rfl | trivial⟩
     ·have y5:¬ (0:Int) < (i:Int):=by omega
      go_wp2_with fail
      go_roundw
      case measure => simp [intOf]; omega
      case rel => exact ⟨i+1,U,by omega,by go_num,rfl,HUL.out,by rw [HSUC.out]; omega,by rw [HSUC.out]; exact HRB.out,by first | rfl | trivial⟩
    ·rw [if_neg hmore] at hr
     have hb9:=numR_bound [b[q]] i u U (i+1) (by
      show (if (i=9 ∧ 1 < b[q].toNat) ∨ (0 < i ∧ b[q].toNat=0) then _ else if 128 ≤ b[q].toNat then _ else _)=_
      rw [hc,if_neg hbad,if_neg hmore,hU]) hi HU.out
     have HRB:=Lib.hid (NumE.good (w:=w) (HR.out.trans hr))
     have y3:¬ (128:Int) ≤ (b[q].toNat:Int):=by omega
     have hz0:i=0 ∨ c ≠ 0:=by omega
     have hz9:i=9 → c ≤ 1:=by omega
     have hpe:p+(i+1)=q+1:=HSUC.out
     rw [hpe] at HRB
     have hU6:=hb9.1
     have hu2:(U:Int) / 2=((U / 2:Nat):Int):=by omega
     have ha1:=and_one U hU6
     have hn1:=not_half U hU6
     have hh1:IntKind.i64.wrap ((U / 2:Nat):Int)=((U / 2:Nat):Int):=by rw [IntKind.wrap_i64]; omega
     obtain ⟨H,hH⟩:∃ H,U / 2=H:=⟨_,rfl⟩
     have hH6:H < 9223372036854775808:=by omega
     have hpar:U % 2=0 ∨ U % 2=1:=by omega
     have hval:unz U=if U % 2=1 then -(H:Int) - 1 else (H:Int):=by unfold unz; rw [hH]
     rw [hH] at hu2 hn1 hh1
     rw [Go.IntWalk.i64_left] at hn1
     clear hbad hr hU hb9 HR HU hpe hH
     rcases hpar with hp2 | hp2
     ·rw [hp2] at ha1
      rw [if_neg (by omega)] at hval
      rw [hval] at HRB
      clear hval hp2
      rcases hz0 with hz | hz
      ·have y1:((i:Int) == 9)=false:=by rw [beq_eq_false_iff_ne]; omega
       have y2:¬ (0:Int) < (i:Int):=by omega
       clear hc hz hz9
       go_wp2_with fail
       go_ret3
       exact HRB.out
      ·have y4:((b[q].toNat:Int) == 0)=false:=by rw [beq_eq_false_iff_ne]; omega
       by_cases h9:i=9
       ·have y1:((i:Int) == 9)=true:=by rw [beq_iff_eq]; omega
        have y2:¬ (1:Int) < (b[q].toNat:Int):=by have:=hz9 h9; omega
        have y5:(0:Int) < (i:Int):=by omega
        clear hc hz hz9 h9
        go_wp2_with fail
        go_ret3
        exact HRB.out
       ·have y1:((i:Int) == 9)=false:=by rw [beq_eq_false_iff_ne]; omega
        clear hc hz hz9 h9
        by_cases h0:0 < i
        ·have y5:(0:Int) < (i:Int):=by omega
         go_wp2_with fail
         go_ret3
         exact HRB.out
        ·have y5:¬ (0:Int) < (i:Int):=by omega
         go_wp2_with fail
         go_ret3
         exact HRB.out
     ·rw [hp2] at ha1
      rw [if_pos hp2] at hval
      rw [hval] at HRB
      clear hval hp2
      rcases hz0 with hz | hz
      ·have y1:((i:Int) == 9)=false:=by rw [beq_eq_false_iff_ne]; omega
       have y2:¬ (0:Int) < (i:Int):=by omega
       clear hc hz hz9
       go_wp2_with fail
       go_ret3
       exact HRB.out
      ·have y4:((b[q].toNat:Int) == 0)=false:=by rw [beq_eq_false_iff_ne]; omega
       by_cases h9:i=9
       ·have y1:((i:Int) == 9)=true:=by rw [beq_iff_eq]; omega
        have y2:¬ (1:Int) < (b[q].toNat:Int):=by have:=hz9 h9; omega
        have y5:(0:Int) < (i:Int):=by omega
        clear hc hz hz9 h9
        go_wp2_with fail
        go_ret3
        exact HRB.out
       ·have y1:((i:Int) == 9)=false:=by rw [beq_eq_false_iff_ne]; omega
        clear hc hz hz9 h9
        by_cases h0:0 < i
        ·have y5:(0:Int) < (i:Int):=by omega
         go_wp2_with fail
         go_ret3
         exact HRB.out
        ·have y5:¬ (0:Int) < (i:Int):=by omega
         go_wp2_with fail
         go_ret3
         exact HRB.out
  ·have z1:(b.size:Int) ≤ (q:Int):=by omega
   have hd:(blOf b).drop q = []:=List.drop_eq_nil_of_le (by rw [blOf_len]; omega)
   rw [hd] at HR
   clear hd
   go_wp2_with fail
   go_ret3
   exact NumE.bad HR.out
set_option maxRecDepth 100000 in
set_option maxHeartbeats 1000000 in
theorem rtext_end {b : ByteArray} {p q n d t : Nat} {w : World} (hN : Calls Tryz.prog 52 #[.string b,.int .i64 (p : Int)] w fun e w' => e = .returned (.tuple #[.int .i64 (n : Int),.int .i64 (q : Int),.int .i64 0]) ∧ w = w') (hT : TxtRE b p w (.returned (.tuple #[.string (b.extract q t),.int .i64 (t : Int),.int .i64 0])) w)
  (hsub:(b.size:Int) - (q:Int)=(d:Int)) (hqi:(q:Int)+(n:Int)=(t:Int)) (hts:t ≤ b.size) (hqs:q ≤ t) (n0:¬ (n:Int) < 0) (n1:¬ (d:Int) < (n:Int)) (d9:d ≤ 1000000) (t9:t ≤ 1000000) (q9:q ≤ 1000000):Calls Tryz.prog 24 #[.string b,.int .i64 (p:Int)] w (TxtRE b p w):=by
 have HN:=Lib.hid hN
 have HT:=Lib.hid hT
 have q0:(0:Int) ≤ (q:Int):=by omega
 have q1:(q:Int) ≤ (t:Int):=by omega
 have q2:(t:Int) ≤ (b.size:Int):=by omega
 clear hN hT
 go_enter Tryz.func24,Tryz.ntmps24
 go_wp2_with fail
 refine HN.out.mono ?_
 rintro e w1 ⟨rfl,rfl⟩
 clear HN
 go_wp2_with fail
 go_ret3
 exact HT.out
set_option maxRecDepth 100000 in
set_option maxHeartbeats 1000000 in
theorem r_TextR (b : ByteArray) (p : Nat) (w : World) (hb : b.size ≤ 1000000) (hp : p ≤ b.size) : Calls Tryz.prog 24 #[.string b,.int .i64 (p : Int)] w (TxtRE b p w) := by
 have hn:=r_Int b p w hb hp
 unfold NumE numV numP numZ at hn
 have ht:=txtR_eq ((blOf b).drop p)
 have hll:((blOf b).drop p).length=b.size - p:=by rw [List.length_drop,blOf_len]
 rcases hr:numR 0 0 ((blOf b).drop p) with z | ⟨U,m⟩
 ·rw [hr] at hn ht
  dsimp only at hn ht
  have hz:=numR_err _ _ _ _ hr
  have HT:=Lib.hid (TxtRE.bad (w:=w) ht)
  have HN:=Lib.hid hn
  clear hn ht hr hll
  rcases hz with rfl | rfl
  all_goals
   go_enter Tryz.func24,Tryz.ntmps24
   go_wp2_with fail
   refine HN.out.mono ?_
   rintro e w1 ⟨rfl,rfl⟩
   go_wp2_with fail
   go_ret3
   exact HT.out
 ·rw [hr] at hn ht
  dsimp only at hn ht
  obtain ⟨hU,-,hm,-⟩:=numR_bound _ 0 0 U m hr (by omega) (by decide)
  obtain ⟨hu1,hu2⟩:=unz_in hU
  rw [Nat.zero_add,hll] at hm
  rw [hll] at ht
  generalize unz U=V at *
  by_cases h1:V < 0
  ·rw [if_pos h1] at ht
   have HT:=Lib.hid (TxtRE.bad (w:=w) ht)
   have HN:=Lib.hid hn
   clear hn ht hr hll
   go_enter Tryz.func24,Tryz.ntmps24
   go_wp2_with fail
   refine HN.out.mono ?_
   rintro e w1 ⟨rfl,rfl⟩
   go_wp2_with fail
   go_ret3
   exact HT.out
  ·rw [if_neg h1] at ht
   obtain ⟨q,hq⟩:∃ q,p+m=q:=⟨_,rfl⟩
   rw [hq] at hn
   have hsub:(b.size:Int) - (q:Int)=((b.size - q:Nat):Int):=by omega
   obtain ⟨d,hd⟩:∃ d,b.size - q=d:=⟨_,rfl⟩
   rw [hd] at hsub
   have hd2:b.size - p - m=d:=by omega
   rw [hd2] at ht
   by_cases h2:(d:Int) < V
   ·rw [if_pos h2] at ht
    have HT:=Lib.hid (TxtRE.bad (w:=w) ht)
    have HN:=Lib.hid hn
    clear hn ht hr hll hd hd2 hq
    go_enter Tryz.func24,Tryz.ntmps24
    go_wp2_with fail
    refine HN.out.mono ?_
    rintro e w1 ⟨rfl,rfl⟩
    go_wp2_with fail
    go_ret3
    exact HT.out
   ·rw [if_neg h2] at ht
    obtain ⟨n,rfl⟩:∃ n:Nat,V=(n:Int):=⟨V.toNat,by omega⟩
    rw [Int.toNat_natCast] at ht
    have hg:=TxtRE.good (w:=w) ht
    have hex:bsOf ((((blOf b).drop p).drop m).take n)=b.extract q (q+n):=by
     rw [extract_drop,List.drop_drop,hq,show q+n - q=n by omega]
    rw [hex,show p+(m+n)=q+n by omega] at hg
    have HT:=Lib.hid hg
    have HN:=Lib.hid hn
    obtain ⟨t,hqt⟩:∃ t,q+n=t:=⟨_,rfl⟩
    rw [hqt] at HT
    have hqi:(q:Int)+(n:Int)=(t:Int):=by omega
    have hts:t ≤ b.size:=by omega
    have hqs:q ≤ t:=by omega
    have n0:¬ (n:Int) < 0:=by omega
    have n1:¬ (d:Int) < (n:Int):=by omega
    clear hn ht hr hll hd hd2 hq hg hex hqt hm hu1 hu2 h1 h2 hU
    exact rtext_end HN.out HT.out hsub hqi hts hqs n0 n1 (by omega) (by omega) (by omega)
end Go.Proofs.YtgdngfdeeadlnaaGreatDoor
namespace Go.Proofs.YtgdngfdeeadlnaaGreatDoor
open Go.RowKit Num Go.Maps Go.WideMaps
theorem elem_bool_inv {P : Program} {e : TypeId} (he : P.underlying e = some .bool) {v : Value} {z : DataW Unit × List MemPlace} (h : plainElem P e v = some z) : ∃ x,v = .bool x ∧ z = (.lit (.bool x),[]) := by
 unfold plainElem at h
 rw [he] at h
 cases v <;> simp at h
 exact ⟨_,rfl,h.symm⟩
theorem seenLaw : Keyed Tryz.prog 9 := string_keyed Tryz.underlying9
theorem seenZero (w : World) : (zeroValue 4).run Tryz.prog w = .ok (.bool false) w := by kernel_rfl
def keyB (s : ByteArray) : Lit := .string s.data.toList
def SeenM (W : World) (b n : Nat) (X : List ByteArray) : Prop :=
 ∃ D:DataW Unit,W.ownsMap Tryz.prog 9 (plainElem Tryz.prog 4) b n D ∧ ∀ s:ByteArray,s.size ≤ maxLen → D.atKey (keyB s) (.lit (.bool false))=.lit (.bool (hasT X s))
section
variable {W W' : World} {b n : Nat} {X : List ByteArray}
theorem SeenM.new (W : World) : SeenM (W.alloc (.map #[] 0)) W.heap.size 0 [] :=
 ⟨.map [],World.ownsMap_made _ _ _ _,fun s _ => rfl⟩
theorem SeenM.kept {row : Option Nat} (h : SeenM W b n X) (hg : W.grownBy W' row) (hne : some b ≠ row) : SeenM W' b n X := by
 obtain ⟨D,h1,h2⟩:=h
 exact ⟨D,h1.kept hg hne,h2⟩
theorem SeenM.lt (h : SeenM W b n X) : b < W.heap.size := by
 obtain ⟨D,h1,-⟩:=h
 exact h1.lt
theorem SeenM.below (h : SeenM W b n X) (hb : Below W.heap.size W W') : SeenM W' b n X := h.kept (only_of_below hb none) (by simp)
theorem SeenM.alloc (h : SeenM W b n X) (o : Obj) : SeenM (W.alloc o) b n X := h.below (below_al' W o)
set_option maxRecDepth 100000 in
theorem SeenM.look (h : SeenM W b n X) (s : ByteArray) (hs : s.size ≤ maxLen) : (Instr.lookup 142 (.map (some b)) (.string s) false).run Tryz.prog W = .ok (.bool (hasT X s)) W := by
 obtain ⟨D,h1,h2⟩:=h
 obtain ⟨v,ps,hrun,hv⟩:=h1.lookup seenLaw Tryz.underlying142 (seenZero W) (plainElem_bool Tryz.underlying4 false) (keyOf_string_mk Tryz.underlying9 hs)
 have e:=h2 s hs
 unfold keyB at e
 rw [e] at hv
 obtain ⟨x,rfl,hx⟩:=elem_bool_inv Tryz.underlying4 hv
 injection hx with hx1 hx2
 injection hx1 with hx1
 injection hx1 with hx1
 rw [hrun,hx1]
set_option maxRecDepth 100000 in
theorem SeenM.put (h : SeenM W b n X) (hn : n < maxLen) (s : ByteArray) (hs : s.size ≤ maxLen) : ∃ W',(Instr.mapUpdate 142 (.map (some b)) (.string s) (.bool true)).run Tryz.prog W = .ok () W' ∧ SeenM W' b (n + 1) (s :: X) ∧ W.grownBy W' (some b) := by
 obtain ⟨D,h1,h2⟩:=h
 obtain ⟨W',hrun,ho,hg⟩:=h1.update seenLaw Tryz.underlying142 hn (keyOf_string_mk Tryz.underlying9 hs) (plainElem_bool (H:=Unit) Tryz.underlying4 true)
 refine ⟨W',hrun,⟨_,ho,fun t ht => ?_⟩,hg⟩
 have hk:WideAt.IsKeyLit (.string s.data.toList):=seenLaw.key (keyOf_string_mk Tryz.underlying9 hs)
 by_cases e:t=s
 ·subst e
  unfold keyB
  rw [atKey_put_same h1.isMap hk]
  unfold hasT
  simp
 ·have hne:keyB t ≠ keyB s:=fun h => e (by
   unfold keyB at h
   injection h with h
   obtain ⟨⟨dt⟩⟩:=t
   obtain ⟨⟨ds⟩⟩:=s
   simp at h
   rw [h])
  have h3:=atKey_put_other (D:=D) hne (.lit (.bool true)) (.lit (.bool false))
  unfold keyB at h3
  unfold keyB
  rw [h3]
  have h4:=h2 t ht
  unfold keyB at h4
  rw [h4]
  have h5:hasT (s :: X) t=hasT X t:=by
   have hst:(s.toList == t.toList)=false:=by
    cases hh:(s.toList == t.toList) with
    | false => rfl
    | true => exact absurd (bytes_of hh) e
   unfold hasT
   rw [List.any_cons,hst,Bool.false_or]
  rw [h5]
end
end Go.Proofs.YtgdngfdeeadlnaaGreatDoor
namespace Go.Proofs.YtgdngfdeeadlnaaGreatDoor
open Go.RowKit Num
def lackF (X : List ByteArray) (f : Fld) : Bool := f.need && !hasT X f.name
theorem fldAt_mem {L : List Fld} {k : Nat} (hk : k < L.length) : fldAt L k ∈ L := by
 unfold fldAt
 rw [List.getD_eq_getElem?_getD,List.getElem?_eq_getElem hk]
 exact List.getElem_mem hk
set_option maxRecDepth 100000 in
set_option maxHeartbeats 1000000 in
theorem a_need1 (f : Fld) (Ao : Option Addr) (no co p5 mb m : Nat) (X : List ByteArray) (W : World) (hp : Blk W p5 142 #[.map (some mb)]) (hs : SeenM W mb m X) (hn : f.name.size ≤ maxLen) :
  Calls Tryz.prog 90 #[.agg #[.string f.name,.int .i64 f.kind,.bool f.need,.int .i64 f.least,.int .i64 f.most,.slice Ao no co],.pointer (some ⟨p5,0,none⟩)] W (BoolBel (lackF X f) W):=by
 obtain ⟨nm,kd,nd,le,mo,op⟩:=f
 have hb0:=below_al' W (.cells #[.string nm,.int .i64 kd,.bool nd,.int .i64 le,.int .i64 mo,.slice Ao no co] 58)
 have c0:=(hp.alloc (.cells #[.string nm,.int .i64 kd,.bool nd,.int .i64 le,.int .i64 mo,.slice Ao no co] 58)).cell 0 |>.trans (show _=some (Value.map (some mb)) from rfl)
 have hl:=(hs.alloc (.cells #[.string nm,.int .i64 kd,.bool nd,.int .i64 le,.int .i64 mo,.slice Ao no co] 58)).look nm hn
 have HB:=Lib.hid hb0
 clear hb0 hs hp
 cases nd
 ·have e:lackF X ⟨nm,kd,false,le,mo,op⟩=false:=rfl
  rw [e]
  go_enter Tryz.func90,Tryz.ntmps90
  go_wp2_with fail
  go_ret
  exact ⟨rfl,HB.out⟩
 ·have e:lackF X ⟨nm,kd,true,le,mo,op⟩ = !hasT X nm:=by unfold lackF; rw [Bool.true_and]
  rw [e]
  obtain ⟨bb,hbb⟩:∃ bb,hasT X nm=bb:=⟨_,rfl⟩
  rw [hbb] at hl ⊢
  clear e hbb
  go_enter Tryz.func90,Tryz.ntmps90
  go_wp2_with fail
  go_ret
  exact ⟨rfl,HB.out⟩
set_option maxRecDepth 100000 in
set_option maxHeartbeats 2000000 in
theorem i_need (v : Value) (L : List Fld) (p5 mb m : Nat) (X : List ByteArray) (w : World) (hv : FldsAt w (· < w.heap.size) v L) (hl : L.length ≤ 1000000) (hnm : ∀ f ∈ L,f.name.size ≤ maxLen) (hp : Blk w p5 142 #[.map (some mb)]) (hs : SeenM w mb m X) :
  Calls Tryz.prog 75 #[v,.func (.func 90) #[] #[.pointer (some ⟨p5,0,none⟩)]] w fun e w' => ∃ k:Int,e=.returned (.int .i64 k) ∧ (0 ≤ k ↔ ∃ f ∈ L,lackF X f=true) ∧ -1 ≤ k ∧ k ≤ 1000000 ∧ Below w.heap.size w w':=by
 obtain ⟨A,n,c,rfl,hn,hnc,hc⟩:=hv
 have hn1:n ≤ 1000000:=by omega
 have ha:=fun (W:World) (hW:Below w.heap.size w W) (f:Fld) (Ao:Option Addr) (no co:Nat) (h:f.name.size ≤ maxLen) => a_need1 f Ao no co p5 mb m X W (hp.below' hW hp.lt) (hs.below hW) h
 have HA:=Lib.hid ha
 have HC:=Lib.hid hc
 have HN:=Lib.hid hn
 have HNM:=Lib.hid hnm
 clear ha hc hn hp hs hnm
 go_enter Tryz.func75,Tryz.ntmps75
 go_wp2_with fail
 go_loopw [8] (fun v8 wr => ∃ k:Nat,k ≤ n ∧ v8=.int .i64 (k:Int) ∧ (∀ j,j < k → lackF X (fldAt L j)=false) ∧ Below w.heap.size w wr) (fun v8 _ => n - (intOf v8).toNat)
 case atStart => exact ⟨0,by omega,rfl,fun j hj => absurd hj (Nat.not_lt_zero _),Below.refl _ _⟩
 case round =>
  obtain ⟨k,hk,rfl,hne,hbr⟩:=hrel
  rename World => wr
  have HNE:=Lib.hid hne
  have HBR:=Lib.hid hbr
  clear hne hbr
  by_cases hlt:k < n
  ·obtain ⟨b,off,rfl,hS,hcc⟩:=HC.out (by omega)
   obtain ⟨x0,x1,x2,x3,x4,u,x5,hu⟩:=hcc k hlt
   obtain ⟨Ao,no,co,rfl,-⟩:=hu
   have hm:fldAt L k ∈ L:=fldAt_mem (by have:=HN.out; omega)
   have hcal:=HA.out wr HBR.out (fldAt L k) Ao no co (HNM.out _ hm)
   obtain ⟨t,ht⟩:∃ t,fldAt L k=t:=⟨_,rfl⟩
   rw [ht] at x0 x1 x2 x3 x4 hm hcal
   have e0:=(HBR.out.cell (p:=⟨b,off+k*6,none⟩) hS).trans x0
   have e1:=(HBR.out.cell (p:=⟨b,off+k*6+1,none⟩) hS).trans x1
   have e2:=(HBR.out.cell (p:=⟨b,off+k*6+2,none⟩) hS).trans x2
   have e3:=(HBR.out.cell (p:=⟨b,off+k*6+3,none⟩) hS).trans x3
   have e4:=(HBR.out.cell (p:=⟨b,off+k*6+4,none⟩) hS).trans x4
   have e5:=(HBR.out.cell (p:=⟨b,off+k*6+5,none⟩) hS).trans x5
   have HT:=Lib.hid ht
   have HM:=Lib.hid hm
   have HCAL:=Lib.hid hcal
   have zi:(k:Int) < (n:Int):=by omega
   have z0:(0:Int) ≤ (k:Int):=by omega
   clear x0 x1 x2 x3 x4 x5 hcc ht hm hcal
   cases hbt:lackF X t
   ·rw [hbt] at HCAL
    have HBT:=Lib.hid hbt
    clear hbt
    go_wp2_with fail
    refine HCAL.out.mono ?_
    rintro e w1 ⟨rfl,hb1⟩
    have HB1:=Lib.hid (HBR.out.trans (hb1.mono HBR.out.size))
    clear hb1
    go_wp2_with fail
    go_roundw
    case measure => simp [intOf]; omega
    case rel => exact ⟨k+1,by omega,by go_num,fun j hj => by
     rcases Nat.lt_or_ge j k with h | h
     ·exact HNE.out j h
     ·rw [show j=k by omega,HT.out]; exact HBT.out,HB1.out⟩
   ·rw [hbt] at HCAL
    have HBT:=Lib.hid hbt
    clear hbt
    go_wp2_with fail
    refine HCAL.out.mono ?_
    rintro e w1 ⟨rfl,hb1⟩
    have HB1:=Lib.hid (HBR.out.trans (hb1.mono HBR.out.size))
    clear hb1
    go_wp2_with fail
    go_ret
    exact ⟨(k:Int),rfl,⟨fun _ => ⟨t,HM.out,HBT.out⟩,fun _ => by omega⟩,by omega,by omega,HB1.out⟩
  ·have zi:¬ (k:Int) < (n:Int):=by omega
   have he:¬ ∃ f ∈ L,lackF X f=true:=fun ⟨t,ht,hbt⟩ => by
    obtain ⟨j,hj,e⟩:=List.getElem_of_mem ht
    have h1:=HNE.out j (by have:=HN.out; omega)
    have h2:fldAt L j=t:=by unfold fldAt; rw [List.getD_eq_getElem?_getD,List.getElem?_eq_getElem hj]; exact e
    rw [h2,hbt] at h1
    cases h1
   have HE:=Lib.hid he
   clear he
   go_wp2_with fail
   go_ret
   exact ⟨-1,rfl,⟨fun h => absurd h (by decide),fun h => absurd h HE.out⟩,by decide,by decide,HBR.out⟩
set_option maxRecDepth 100000 in
set_option maxHeartbeats 2000000 in
theorem c_need (v : Value) (L : List Fld) (p5 mb m : Nat) (X : List ByteArray) (w : World) (hv : FldsAt w (· < w.heap.size) v L) (hl : L.length ≤ 1000000) (hnm : ∀ f ∈ L,f.name.size ≤ maxLen) (hp : Blk w p5 142 #[.map (some mb)]) (hs : SeenM w mb m X) :
  Calls Tryz.prog 89 #[v,.func (.func 90) #[] #[.pointer (some ⟨p5,0,none⟩)]] w (BoolBel (L.any (lackF X)) w):=by
 have HC:=Lib.hid (i_need v L p5 mb m X w hv hl hnm hp hs)
 clear hv hl hnm hp hs
 go_enter Tryz.func89,Tryz.ntmps89
 go_wp2_with fail
 refine HC.out.mono ?_
 rintro e w1 ⟨k,rfl,hk,-,-,hb1⟩
 have e9:L.any (lackF X)=decide (0 ≤ k):=by rw [Bool.eq_iff_iff,decide_eq_true_iff,hk,List.any_eq_true]
 have HB1:=Lib.hid hb1
 have HE:=Lib.hid e9
 clear hb1 e9 hk
 go_wp2_with fail
 go_ret
 exact ⟨by rw [HE.out]; rfl,HB1.out⟩
end Go.Proofs.YtgdngfdeeadlnaaGreatDoor
