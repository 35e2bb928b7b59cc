/- Contracts: codec.Int and codec.Text at any bytes. And more. -/
import Derived.Test.YtfinaekeoeeogaaGreatDoorX41
import Derived.Test.YtfinaekeoeeogaaGreatDoorX27
import Derived.Test.YtfinaekeoeeogaaGreatDoorX10
import Derived.Test.YtfinaekeoeeogaaGreatDoorX32
set_option linter.unusedVariables false
set_option linter.unusedSimpArgs false
namespace Go.Proofs.YtfinaekeoeeogaaGreatDoor
open Go.RowKit Num
def numV (b : ByteArray) (p : Nat) : Int := match numR 0 0 ((blOf b).drop p) with | .ok (U,_) => unz U | .error _ => 0
def numP (b : ByteArray) (p : Nat) : Nat := match numR 0 0 ((blOf b).drop p) with | .ok (_,m) => p + m | .error _ => p
def numZ (b : ByteArray) (p : Nat) : Int := match numR 0 0 ((blOf b).drop p) with | .ok _ => 0 | .error z => z
def NumE (b : ByteArray) (p : Nat) (w : World) (e : Ending) (w' : World) : Prop := e = .returned (.tuple #[.int .i64 (numV b p),.int .i64 (numP b p : Int),.int .i64 (numZ b p)]) ∧ w = w'
theorem NumE.bad {b : ByteArray} {p : Nat} {z : Int} {w : World} (h : numR 0 0 ((blOf b).drop p) = .error z) : NumE b p w (.returned (.tuple #[.int .i64 0,.int .i64 (p : Int),.int .i64 z])) w := by
 unfold NumE numV numP numZ; rw [h]; exact ⟨rfl,rfl⟩
theorem NumE.good {b : ByteArray} {p U m : Nat} {w : World} (h : numR 0 0 ((blOf b).drop p) = .ok (U,m)) : NumE b p w (.returned (.tuple #[.int .i64 (unz U),.int .i64 ((p + m : Nat) : Int),.int .i64 0])) w := by
 unfold NumE numV numP numZ; rw [h]; exact ⟨rfl,rfl⟩
theorem or_low (u x i : Nat) (hu : u < 128 ^ i) : u ||| x * 128 ^ i = u + x * 128 ^ i := by
 have e:(128:Nat) ^ i=2 ^ (7*i):=by rw [show (128:Nat)=2 ^ 7 by decide,← Nat.pow_mul]
 rw [e] at hu ⊢
 rw [Nat.or_comm,Nat.mul_comm x,← Nat.two_pow_add_eq_or_of_lt hu,Nat.add_comm]
theorem or_u64 (u c i : Nat) (hu : u < 128 ^ i) (hi : i ≤ 8 ∨ c % 128 ≤ 1 ∧ i = 9) : bits .or .u64 (u : Int) (IntKind.u64.wrap ((c : Int) % 128 * 2 ^ (7 * i))) = ((u + c % 128 * 128 ^ i : Nat) : Int) := by
 have e2:(2:Nat) ^ (7*i)=128 ^ i:=by rw [show (128:Nat)=2 ^ 7 by decide,← Nat.pow_mul]
 have h1:c % 128*128 ^ i+u < 18446744073709551616:=by
  rcases hi with hi | ⟨hc,rfl⟩
  ·have h3:c % 128*128 ^ i ≤ 127*128 ^ i:=Nat.mul_le_mul_right _ (by omega)
   have h4:(128:Nat) ^ i ≤ 128 ^ 8:=Nat.pow_le_pow_right (by decide) hi
   have e8:(128:Nat) ^ 8=72057594037927936:=by decide
   omega
  ·have e9:(128:Nat) ^ 9=9223372036854775808:=by decide
   rw [e9] at hu ⊢
   have:c % 128*9223372036854775808 ≤ 1*9223372036854775808:=Nat.mul_le_mul_right _ hc
   omega
 have ex:(c:Int) % 128*2 ^ (7*i)=((c % 128*128 ^ i:Nat):Int):=by rw [← e2]; push_cast; rfl
 rw [ex]
 obtain ⟨x,hx⟩:∃ x,c % 128*128 ^ i=x:=⟨_,rfl⟩
 have ho:=or_low u (c % 128) i hu
 rw [hx] at ho h1 ⊢
 have ew:IntKind.u64.wrap (x:Int)=(x:Int):=by rw [IntKind.wrap_u64]; omega
 rw [ew]
 have ha:u % 2 ^ IntKind.u64.bits=u:=Nat.mod_eq_of_lt (by show u < 18446744073709551616; omega)
 have hb:x % 2 ^ IntKind.u64.bits=x:=Nat.mod_eq_of_lt (by show x < 18446744073709551616; omega)
 simp only [bits,BitVec.ofInt_natCast,BitVec.toNat_or,BitVec.toNat_ofNat,ha,hb,ho]
 rw [IntKind.wrap_u64]
 omega
theorem unz_bits (U : Nat) (hU : U < 18446744073709551616) : bits .xor .i64 (wrap64 ((U : Int) / 2)) (wrap64 (-wrap64 (bits .and .u64 (U : Int) 1))) = unz U := by
 have ha:bits .and .u64 (U:Int) 1=((U % 2:Nat):Int):=by
  have h1:U % 2 ^ IntKind.u64.bits=U:=Nat.mod_eq_of_lt hU
  have h2:(1:Int)=((1:Nat):Int):=rfl
  rw [h2]
  have h3:(1:Nat) % 2 ^ IntKind.u64.bits=1:=by decide
  simp only [bits,BitVec.ofInt_natCast,BitVec.toNat_and,BitVec.toNat_ofNat,h1,h3,Nat.and_one_is_mod]
  rw [IntKind.wrap_u64]
  omega
 rw [ha]
 have hw:wrap64 ((U:Int) / 2)=((U / 2:Nat):Int):=by
  rw [show (U:Int) / 2=((U / 2:Nat):Int) by omega]
  exact IntWalk.wrap64_in ((U / 2:Nat):Int) ⟨by omega,by omega⟩
 rw [hw]
 unfold unz
 have hb:U / 2 % 2 ^ IntKind.i64.bits=U / 2:=Nat.mod_eq_of_lt (by show U / 2 < 18446744073709551616; omega)
 by_cases h:U % 2=1
 ·rw [if_pos h,h]
  have e1:wrap64 (-wrap64 ((1:Nat):Int)) = -1:=by kernel_rfl
  rw [e1]
  have hn:(BitVec.ofInt 64 (-1))=BitVec.allOnes 64:=by decide
  have hx:(BitVec.ofNat 64 (U / 2) ^^^ BitVec.allOnes 64).toNat=18446744073709551615 - U / 2:=by
   rw [BitVec.xor_allOnes,BitVec.toNat_not,BitVec.toNat_ofNat,Nat.mod_eq_of_lt (by omega)]
  show IntKind.i64.wrap ((BitVec.ofInt 64 ((U / 2:Nat):Int) ^^^ BitVec.ofInt 64 (-1)).toNat:Int)=_
  rw [hn,BitVec.ofInt_natCast,hx,IntKind.wrap_i64]
  omega
 ·have h0:U % 2=0:=by omega
  rw [if_neg h,h0]
  have e1:wrap64 (-wrap64 ((0:Nat):Int))=0:=by kernel_rfl
  rw [e1]
  have hn:(BitVec.ofInt 64 0)=0#64:=by decide
  show IntKind.i64.wrap ((BitVec.ofInt 64 ((U / 2:Nat):Int) ^^^ BitVec.ofInt 64 0).toNat:Int)=_
  rw [hn,BitVec.xor_zero,BitVec.ofInt_natCast,BitVec.toNat_ofNat,Nat.mod_eq_of_lt (by omega),IntKind.wrap_i64]
  omega
set_option maxRecDepth 100000 in
set_option maxHeartbeats 1000000 in
theorem c_number (b : ByteArray) (p : Nat) (w : World) (hb : b.size ≤ 1000000) (hp : p ≤ b.size) : Calls Tryz.prog 88 #[.string b,.int .i64 (p : Int)] w (NumE b p w) := by
 go_enter Tryz.func88,Tryz.ntmps88
 go_wp2_with fail
 go_loopw [7,8,9,10,33,41,44] (fun v7 _ _ v10 _ _ _ wr => ∃ i u:Nat,i ≤ 9 ∧ v10=.int .i64 (i:Int) ∧ v7=.int .u64 (u:Int) ∧ u < 128 ^ i ∧ p+i ≤ b.size ∧ numR 0 0 ((blOf b).drop p)=numR i u ((blOf b).drop (p+i)) ∧ w=wr) (fun _ _ _ v10 _ _ _ _ => 10 - (intOf v10).toNat)
 case atStart => exact ⟨0,0,by omega,rfl,rfl,by decide,by omega,rfl,rfl⟩
 case round =>
  obtain ⟨i,u,hi,rfl,rfl,hu,hpi,hR,rfl⟩:=hrel
  have HR:=Lib.hid hR
  have HU:=Lib.hid hu
  clear hR hu
  have zi:(i:Int) < 10:=by omega
  obtain ⟨q,hq⟩:∃ q,p+i=q:=⟨_,rfl⟩
  rw [hq] at hpi HR
  have hqi:(p:Int)+(i:Int)=(q:Int):=by omega
  have HQ:=Lib.hid hq
  clear hq
  by_cases hlt:q < b.size
  ·have z1:¬ (b.size:Int) ≤ (q:Int):=by omega
   have zq:(0:Int) ≤ (q:Int):=by omega
   have zr:(q:Int) < (b.size:Int):=by omega
   have hd:=drop_cons hlt
   rw [hd] at HR
   have hsucc:p+(i+1)=q+1:=by have:=HQ.out; omega
   obtain ⟨c,hc⟩:∃ c,b[q].toNat=c:=⟨_,rfl⟩
   have hc6:c < 256:=by rw [← hc]; exact b[q].toNat_lt
   have HSUC:=Lib.hid hsucc
   have HD:=Lib.hid hd
   clear hsucc hd
   by_cases hbad:(i=9 ∧ 1 < c) ∨ (0 < i ∧ c=0)
   ·have hr:numR i u (b[q] :: List.drop (q+1) (blOf b))=.error 4:=by
     show (if (i=9 ∧ 1 < b[q].toNat) ∨ (0 < i ∧ b[q].toNat=0) then _ else _)=_
     rw [hc,if_pos hbad]
    have HRB:=Lib.hid (HR.out.trans hr)
    clear hr HR HU
    by_cases h9:i=9 ∧ 1 < c
    ·have y1:((i:Int) == 9)=true:=by rw [beq_iff_eq]; omega
     have y2:(1:Int) < (b[q].toNat:Int):=by omega
     clear hc hbad h9
     go_wp2_with fail
     go_ret3
     exact NumE.bad HRB.out
    ·have y0:0 < i ∧ c=0:=by omega
     have y2:¬ (1:Int) < (b[q].toNat:Int):=by omega
     have y3:¬ (128:Int) ≤ (b[q].toNat:Int):=by omega
     have y4:((b[q].toNat:Int) == 0)=true:=by rw [beq_iff_eq]; omega
     have y5:(0:Int) < (i:Int):=by omega
     clear hc hbad h9 y0
     by_cases h8:i=9
     ·have y1:((i:Int) == 9)=true:=by rw [beq_iff_eq]; omega
      clear h8
      go_wp2_with fail
      go_ret3
      exact NumE.bad HRB.out
     ·have y1:((i:Int) == 9)=false:=by rw [beq_eq_false_iff_ne]; omega
      clear h8
      go_wp2_with fail
      go_ret3
      exact NumE.bad HRB.out
   ·have hor:=or_u64 u c i HU.out (by omega)
    obtain ⟨U,hU⟩:∃ U,u+c % 128*128 ^ i=U:=⟨_,rfl⟩
    have hr:numR i u (b[q] :: List.drop (q+1) (blOf b))=if 128 ≤ c then numR (i+1) U (List.drop (q+1) (blOf b)) else .ok (U,i+1):=by
     show (if (i=9 ∧ 1 < b[q].toNat) ∨ (0 < i ∧ b[q].toNat=0) then _ else if 128 ≤ b[q].toNat then _ else _)=_
     rw [hc,if_neg hbad,hU]
    rw [hU,← hc] at hor
    by_cases hmore:128 ≤ c
    ·rw [if_pos hmore] at hr
     have h9:i ≠ 9:=fun e => hbad (.inl ⟨e,by omega⟩)
     have hUl:U < 128 ^ (i+1):=by
      rw [← hU,Nat.pow_succ]
      have h3:c % 128*128 ^ i ≤ 127*128 ^ i:=Nat.mul_le_mul_right _ (by omega)
      have:=HU.out
      omega
     have HRB:=Lib.hid (HR.out.trans hr)
     have HUL:=Lib.hid hUl
     have y1:((i:Int) == 9)=false:=by rw [beq_eq_false_iff_ne]; omega
     have y3:(128:Int) ≤ (b[q].toNat:Int):=by omega
     have hi8:i ≤ 8:=by omega
     clear hc hbad hr hU hUl h9 HR HU
     go_wp2_with fail
     go_roundw
     case measure => simp [intOf]; omega
     case rel => exact ⟨i+1,U,by omega,by go_num,rfl,HUL.out,by rw [HSUC.out]; omega,by rw [HSUC.out]; exact HRB.out,by first | rfl | trivial⟩
    ·rw [if_neg hmore] at hr
     have hb9:=numR_bound [b[q]] i u U (i+1) (by
      show (if (i=9 ∧ 1 < b[q].toNat) ∨ (0 < i ∧ b[q].toNat=0) then _ else if 128 ≤ b[q].toNat then _ else _)=_
      rw [hc,if_neg hbad,if_neg hmore,hU]) hi HU.out
     have hxx:=unz_bits U hb9.1
     have HRB:=Lib.hid (NumE.good (w:=w) (HR.out.trans hr))
     have y3:¬ (128:Int) ≤ (b[q].toNat:Int):=by omega
     have hz0:i=0 ∨ c ≠ 0:=by omega
     have hz9:i=9 → c ≤ 1:=by omega
     obtain ⟨V,hV⟩:∃ V,unz U=V:=⟨_,rfl⟩
     rw [hV] at hxx HRB
     have hpe:p+(i+1)=q+1:=HSUC.out
     rw [hpe] at HRB
     clear hbad hr hU hb9 HR HU hV hpe
     rcases hz0 with hz | hz
     ·have y1:((i:Int) == 9)=false:=by rw [beq_eq_false_iff_ne]; omega
      have y2:¬ (0:Int) < (i:Int):=by omega
      by_cases h0:c=0
      ·have y4:((b[q].toNat:Int) == 0)=true:=by rw [beq_iff_eq]; omega
       clear hc hz hz9 h0
       go_wp2_with fail
       go_ret3
       exact HRB.out
      ·have y4:((b[q].toNat:Int) == 0)=false:=by rw [beq_eq_false_iff_ne]; omega
       clear hc hz hz9 h0
       go_wp2_with fail
       go_ret3
       exact HRB.out
     ·have y4:((b[q].toNat:Int) == 0)=false:=by rw [beq_eq_false_iff_ne]; omega
      by_cases h9:i=9
      ·have y1:((i:Int) == 9)=true:=by rw [beq_iff_eq]; omega
       have y2:¬ (1:Int) < (b[q].toNat:Int):=by have:=hz9 h9; omega
       clear hc hz hz9 h9
       go_wp2_with fail
       go_ret3
       exact HRB.out
      ·have y1:((i:Int) == 9)=false:=by rw [beq_eq_false_iff_ne]; omega
       clear hc hz hz9 h9
       go_wp2_with fail
       go_ret3
       exact HRB.out
  ·have z1:(b.size:Int) ≤ (q:Int):=by omega
   have hd:(blOf b).drop q = []:=List.drop_eq_nil_of_le (by rw [blOf_len]; omega)
   rw [hd] at HR
   clear hd
   go_wp2_with fail
   go_ret3
   exact NumE.bad HR.out
theorem numR_err : ∀ (l : List UInt8) (i u : Nat) (z : Int),numR i u l = .error z → z = 4 ∨ z = 5
 | [],i,u,z,h => by injection h with h; exact .inr h.symm
 | c :: r,i,u,z,h => by
  unfold numR at h
  by_cases h1:(i=9 ∧ 1 < c.toNat) ∨ (0 < i ∧ c.toNat=0)
  ·rw [if_pos h1] at h; injection h with h; exact .inl h.symm
  rw [if_neg h1] at h
  by_cases h2:128 ≤ c.toNat
  ·rw [if_pos h2] at h; exact numR_err r (i+1) _ z h
  ·rw [if_neg h2] at h; cases h
theorem txtR_eq (l : List UInt8) : txtR l = match numR 0 0 l with
  | .error z => .error z
  | .ok (U,m) => if unz U < 0 then .error 4 else if ((l.length - m:Nat):Int) < unz U then .error 5 else .ok ((l.drop m).take (unz U).toNat,m+(unz U).toNat):=rfl
theorem rdI_eq (r : List UInt8) : rdI ⟨r,false⟩ = match numR 0 0 r with
  | .ok (U,m) => (unz U,⟨r.drop m,false⟩)
  | .error _ => (0,⟨r,true⟩):=rfl
theorem rdT_eq (r : List UInt8) : rdT ⟨r,false⟩ = match txtR r with
  | .ok (x,m) => (bsOf x,⟨r.drop m,false⟩)
  | .error _ => (⟨#[]⟩,⟨r,true⟩):=rfl
theorem pt_drew {W : World} {a : Addr} {v : Value} (h : W.cell? a = some v) : W.drew.cell? a = some v := h
theorem unz_in {U : Nat} (h : U < 18446744073709551616) : -9223372036854775808 ≤ unz U ∧ unz U < 9223372036854775808 := by
 unfold unz; split <;> omega
set_option maxHeartbeats 400000 in
theorem c_inside (b : ByteArray) (p : Nat) (w : World) (hp : p ≤ b.size) : Calls Tryz.prog 87 #[.string b,.int .i64 (p : Int)] w fun e w' => e = .returned (.bool true) ∧ w = w' := by
 have z0:(0:Int) ≤ (p:Int):=by omega
 have z1:(p:Int) ≤ (b.size:Int):=by omega
 go_enter Tryz.func87,Tryz.ntmps87
 go_wp2_with fail
 go_ret
 exact ⟨rfl,rfl⟩
set_option maxHeartbeats 400000 in
theorem c_Int (b : ByteArray) (p : Nat) (w : World) (hb : b.size ≤ 1000000) (hp : p ≤ b.size) : Calls Tryz.prog 67 #[.string b,.int .i64 (p : Int)] w (NumE b p w) := by
 have hn:=c_number b p w hb hp
 unfold NumE at hn ⊢
 generalize numV b p=v at *
 generalize numP b p=q at *
 generalize numZ b p=z at *
 have HN:=Lib.hid hn
 clear hn
 go_enter Tryz.func67,Tryz.ntmps67
 go_wp2_with fail
 refine (c_inside b p _ hp).mono ?_
 rintro e w1 ⟨rfl,rfl⟩
 go_wp2_with fail
 refine HN.out.mono ?_
 rintro e w2 ⟨rfl,rfl⟩
 go_wp2_with fail
 go_ret3
 exact ⟨rfl,rfl⟩
def txtV (b : ByteArray) (p : Nat) : ByteArray := match txtR ((blOf b).drop p) with | .ok (x,_) => bsOf x | .error _ => ⟨#[]⟩
def txtP (b : ByteArray) (p : Nat) : Nat := match txtR ((blOf b).drop p) with | .ok (_,m) => p + m | .error _ => p
def txtZ (b : ByteArray) (p : Nat) : Int := match txtR ((blOf b).drop p) with | .ok _ => 0 | .error z => z
def TxtRE (b : ByteArray) (p : Nat) (w : World) (e : Ending) (w' : World) : Prop := e = .returned (.tuple #[.string (txtV b p),.int .i64 (txtP b p : Int),.int .i64 (txtZ b p)]) ∧ w = w'
theorem TxtRE.bad {b : ByteArray} {p : Nat} {z : Int} {w : World} (h : txtR ((blOf b).drop p) = .error z) : TxtRE b p w (.returned (.tuple #[.string ⟨#[]⟩,.int .i64 (p : Int),.int .i64 z])) w := by
 unfold TxtRE txtV txtP txtZ; rw [h]; exact ⟨rfl,rfl⟩
theorem TxtRE.good {b : ByteArray} {p m : Nat} {x : List UInt8} {w : World} (h : txtR ((blOf b).drop p) = .ok (x,m)) : TxtRE b p w (.returned (.tuple #[.string (bsOf x),.int .i64 ((p + m : Nat) : Int),.int .i64 0])) w := by
 unfold TxtRE txtV txtP txtZ; rw [h]; exact ⟨rfl,rfl⟩
set_option maxRecDepth 100000 in
set_option maxHeartbeats 1000000 in
theorem text_end {b : ByteArray} {p q n d t : Nat} {w : World} (hN : Calls Tryz.prog 67 #[.string b,.int .i64 (p : Int)] w fun e w' => e = .returned (.tuple #[.int .i64 (n : Int),.int .i64 (q : Int),.int .i64 0]) ∧ w = w') (hT : TxtRE b p w (.returned (.tuple #[.string (b.extract q t),.int .i64 (t : Int),.int .i64 0])) w)
  (hsub:(b.size:Int) - (q:Int)=(d:Int)) (hqi:(q:Int)+(n:Int)=(t:Int)) (hts:t ≤ b.size) (hqs:q ≤ t) (n0:¬ (n:Int) < 0) (n1:¬ (d:Int) < (n:Int)) (d9:d ≤ 1000000) (t9:t ≤ 1000000) (q9:q ≤ 1000000):Calls Tryz.prog 65 #[.string b,.int .i64 (p:Int)] w (TxtRE b p w):=by
 have HN:=Lib.hid hN
 have HT:=Lib.hid hT
 have q0:(0:Int) ≤ (q:Int):=by omega
 have q1:(q:Int) ≤ (t:Int):=by omega
 have q2:(t:Int) ≤ (b.size:Int):=by omega
 clear hN hT
 go_enter Tryz.func65,Tryz.ntmps65
 go_wp2_with fail
 refine HN.out.mono ?_
 rintro e w1 ⟨rfl,rfl⟩
 clear HN
 go_wp2_with fail
 go_ret3
 exact HT.out
set_option maxRecDepth 100000 in
set_option maxHeartbeats 1000000 in
theorem c_TextR (b : ByteArray) (p : Nat) (w : World) (hb : b.size ≤ 1000000) (hp : p ≤ b.size) : Calls Tryz.prog 65 #[.string b,.int .i64 (p : Int)] w (TxtRE b p w) := by
 have hn:=c_Int b p w hb hp
 unfold NumE numV numP numZ at hn
 have ht:=txtR_eq ((blOf b).drop p)
 have hll:((blOf b).drop p).length=b.size - p:=by rw [List.length_drop,blOf_len]
 rcases hr:numR 0 0 ((blOf b).drop p) with z | ⟨U,m⟩
 ·rw [hr] at hn ht
  dsimp only at hn ht
  have hz:=numR_err _ _ _ _ hr
  have HT:=Lib.hid (TxtRE.bad (w:=w) ht)
  have HN:=Lib.hid hn
  clear hn ht hr hll
  rcases hz with rfl | rfl
  all_goals
   go_enter Tryz.func65,Tryz.ntmps65
   go_wp2_with fail
   refine HN.out.mono ?_
   rintro e w1 ⟨rfl,rfl⟩
   go_wp2_with fail
   go_ret3
   exact HT.out
 ·rw [hr] at hn ht
  dsimp only at hn ht
  obtain ⟨hU,-,hm,-⟩:=numR_bound _ 0 0 U m hr (by omega) (by decide)
  obtain ⟨hu1,hu2⟩:=unz_in hU
  rw [Nat.zero_add,hll] at hm
  rw [hll] at ht
  generalize unz U=V at *
  by_cases h1:V < 0
  ·rw [if_pos h1] at ht
   have HT:=Lib.hid (TxtRE.bad (w:=w) ht)
   have HN:=Lib.hid hn
   clear hn ht hr hll
   go_enter Tryz.func65,Tryz.ntmps65
   go_wp2_with fail
   refine HN.out.mono ?_
   rintro e w1 ⟨rfl,rfl⟩
   go_wp2_with fail
   go_ret3
   exact HT.out
  ·rw [if_neg h1] at ht
   obtain ⟨q,hq⟩:∃ q,p+m=q:=⟨_,rfl⟩
   rw [hq] at hn
   have hsub:(b.size:Int) - (q:Int)=((b.size - q:Nat):Int):=by omega
   obtain ⟨d,hd⟩:∃ d,b.size - q=d:=⟨_,rfl⟩
   rw [hd] at hsub
   have hd2:b.size - p - m=d:=by omega
   rw [hd2] at ht
   by_cases h2:(d:Int) < V
   ·rw [if_pos h2] at ht
    have HT:=Lib.hid (TxtRE.bad (w:=w) ht)
    have HN:=Lib.hid hn
    clear hn ht hr hll hd hd2 hq
    go_enter Tryz.func65,Tryz.ntmps65
    go_wp2_with fail
    refine HN.out.mono ?_
    rintro e w1 ⟨rfl,rfl⟩
    go_wp2_with fail
    go_ret3
    exact HT.out
   ·rw [if_neg h2] at ht
    obtain ⟨n,rfl⟩:∃ n:Nat,V=(n:Int):=⟨V.toNat,by omega⟩
    rw [Int.toNat_natCast] at ht
    have hg:=TxtRE.good (w:=w) ht
    have hex:bsOf ((((blOf b).drop p).drop m).take n)=b.extract q (q+n):=by
     rw [extract_drop,List.drop_drop,hq,show q+n - q=n by omega]
    rw [hex,show p+(m+n)=q+n by omega] at hg
    have HT:=Lib.hid hg
    have HN:=Lib.hid hn
    obtain ⟨t,hqt⟩:∃ t,q+n=t:=⟨_,rfl⟩
    rw [hqt] at HT
    have hqi:(q:Int)+(n:Int)=(t:Int):=by omega
    have hts:t ≤ b.size:=by omega
    have hqs:q ≤ t:=by omega
    have n0:¬ (n:Int) < 0:=by omega
    have n1:¬ (d:Int) < (n:Int):=by omega
    clear hn ht hr hll hd hd2 hq hg hex hqt hm hu1 hu2 h1 h2 hU
    exact text_end HN.out HT.out hsub hqi hts hqs n0 n1 (by omega) (by omega) (by omega)
def RdB (W : World) (rb : Nat) (b : ByteArray) (s : RS) : Prop := ∃ p : Nat,Blk W rb 85 #[.string b,.int .i64 (p : Int),.bool s.bad] ∧ p ≤ b.size ∧ (blOf b).drop p = s.rest
theorem RdB.keep {W W' : World} {rb : Nat} {b : ByteArray} {s : RS} (h : RdB W rb b s) (hb : W'.heap[rb]? = W.heap[rb]?) : RdB W' rb b s := by
 obtain ⟨p,h1,h2,h3⟩:=h
 exact ⟨p,hb.trans h1,h2,h3⟩
theorem RdB.lt {W : World} {rb : Nat} {b : ByteArray} {s : RS} (h : RdB W rb b s) : rb < W.heap.size := by
 obtain ⟨p,h1,h2,h3⟩:=h
 exact h1.lt
theorem rdI_in (s : RS) : -9223372036854775808 ≤ (rdI s).1 ∧ (rdI s).1 < 9223372036854775808 := by
 unfold rdI
 by_cases h:s.bad=true
 ·rw [if_pos h]; exact ⟨(show (-9223372036854775808:Int) ≤ 0 by decide),(show (0:Int) < 9223372036854775808 by decide)⟩
 ·rw [if_neg h]
  rcases hr:numR 0 0 s.rest with z | ⟨U,m⟩
  ·exact ⟨(show (-9223372036854775808:Int) ≤ 0 by decide),(show (0:Int) < 9223372036854775808 by decide)⟩
  ·exact unz_in (numR_bound _ 0 0 U m hr (by omega) (by decide)).1
def RdQ (v : Value) (b : ByteArray) (rb : Nat) (s : RS) (W : World) (e : Ending) (W' : World) : Prop := e = .returned v ∧ RdB W' rb b s ∧ W.grownBy W' (some rb)
set_option maxRecDepth 100000 in
set_option maxHeartbeats 2000000 in
theorem n_Int (b : ByteArray) (rb : Nat) (s : RS) (W : World) (hb : b.size ≤ 1000000) (h : RdB W rb b s) : Calls Tryz.prog 66 #[.pointer (some ⟨rb,0,none⟩),.func (.func 67) #[] #[]] W (RdQ (.int .i64 (rdI s).1) b rb (rdI s).2 W) := by
  obtain ⟨r,bad⟩:=s
  obtain ⟨p,hB,hp,hr⟩:=h
  dsimp only at hB hr
  have c0:=(hB.cell 0).trans (show _=some (Value.string b) from rfl)
  have c1:=(hB.cell 1).trans (show _=some (Value.int .i64 (p:Int)) from rfl)
  have c2:=(hB.cell 2).trans (show _=some (Value.bool bad) from rfl)
  have d0:=pt_drew c0
  have d1:=pt_drew c1
  have f1:=hB.frozen 1
  have f2:=hB.frozen 2
  have HB:=Lib.hid hB
  clear hB
  cases bad with
  | true =>
    have HQ:=Lib.hid (show RdQ (.int .i64 (rdI ⟨r,true⟩).1) b rb (rdI ⟨r,true⟩).2 W (.returned (.int .i64 0)) W from ⟨rfl,⟨p,HB.out,hp,hr⟩,World.grownBy.refl W _⟩)
    clear hr
    go_enter Tryz.func66,Tryz.ntmps66
    go_wp2_with fail
    go_ret
    exact HQ.out
  | false =>
    have hn:=c_Int b p W.drew hb hp
    unfold NumE numV numP numZ at hn
    have he:=rdI_eq r
    rw [hr] at hn
    rcases hx:numR 0 0 r with z | ⟨U,m⟩
    · rw [hx] at hn he
      dsimp only at hn he
      have hz:=numR_err _ _ _ _ hx
      have HQ:=Lib.hid (fun W' (hW:RdQ (.int .i64 0) b rb ⟨r,true⟩ W (.returned (.int .i64 0)) W') => (by rw [he]; exact hW:RdQ (.int .i64 (rdI ⟨r,false⟩).1) b rb (rdI ⟨r,false⟩).2 W (.returned (.int .i64 0)) W'))
      have HN:=Lib.hid hn
      have HR:=Lib.hid hr
      clear hn he hx hr
      go_enter Tryz.func66,Tryz.ntmps66
      go_upto_region 4 with fail
      go_region_law (first
        | ((try go_simp); go_at_call 67; (refine HN.out.mono ?_); rintro e w1 ⟨rfl,hw1⟩))
      all_goals
        have g2:w1.cell? ⟨rb,2,none⟩=some (.bool false):=by rw [← hw1]; exact c2
        have k2:w1.frozen? ⟨rb,2,none⟩=false:=by rw [← hw1]; exact f2
        rcases hz with rfl | rfl
        all_goals
          go_wp2_with fail
          go_ret
          refine HQ.out _ ⟨rfl,⟨p,?_,hp,HR.out⟩,?_⟩
          · rw [← hw1]; exact HB.out.drew.set_ 2 _
          · rw [← hw1]; exact gb_trans (only_drewN (World.grownBy.refl W _) 1) (grown_setCell _ ⟨rb,2,none⟩ _)
    · rw [hx] at hn he
      dsimp only at hn he
      obtain ⟨hU,-,hm,-⟩:=numR_bound _ 0 0 U m hx (by omega) (by decide)
      have hrl:r.length=b.size - p:=by rw [← hr,List.length_drop,blOf_len]
      have HQ:=Lib.hid (fun W' (hW:RdQ (.int .i64 (unz U)) b rb ⟨r.drop m,false⟩ W (.returned (.int .i64 (unz U))) W') => (by rw [he]; exact hW:RdQ (.int .i64 (rdI ⟨r,false⟩).1) b rb (rdI ⟨r,false⟩).2 W (.returned (.int .i64 (unz U))) W'))
      have hdr:(blOf b).drop (p+m)=r.drop m:=by rw [← hr,List.drop_drop]
      generalize unz U=V at *
      obtain ⟨q,hq⟩:∃ q,p+m=q:=⟨_,rfl⟩
      rw [hq] at hn hdr
      have hqs:q ≤ b.size:=by omega
      have HN:=Lib.hid hn
      have HDR:=Lib.hid hdr
      clear hn he hx hr hdr hq hrl
      go_enter Tryz.func66,Tryz.ntmps66
      go_upto_region 4 with fail
      go_region_law (first
        | ((try go_simp); go_at_call 67; (refine HN.out.mono ?_); rintro e w1 ⟨rfl,hw1⟩))
      all_goals
        have g1:w1.cell? ⟨rb,1,none⟩=some (.int .i64 (p:Int)):=by rw [← hw1]; exact c1
        have k1:w1.frozen? ⟨rb,1,none⟩=false:=by rw [← hw1]; exact f1
        go_wp2_with fail
        go_ret
        refine HQ.out _ ⟨rfl,⟨q,?_,hqs,HDR.out⟩,?_⟩
        · rw [← hw1]; exact HB.out.drew.set_ 1 _
        · rw [← hw1]; exact gb_trans (only_drewN (World.grownBy.refl W _) 1) (grown_setCell _ ⟨rb,1,none⟩ _)
theorem txtR_err {l : List UInt8} {z : Int} (h : txtR l = .error z) : z = 4 ∨ z = 5 := by
 unfold txtR at h
 rcases hr:numR 0 0 l with y | ⟨U,m⟩
 ·rw [hr] at h
  injection h with h
  subst h
  exact numR_err _ _ _ _ hr
 ·rw [hr] at h
  dsimp only at h
  by_cases h1:unz U < 0
  ·rw [if_pos h1] at h; injection h with h; exact .inl h.symm
  ·rw [if_neg h1] at h
   by_cases h2:((l.length - m:Nat):Int) < unz U
   ·rw [if_pos h2] at h; injection h with h; exact .inr h.symm
   ·rw [if_neg h2] at h; cases h
theorem txtR_le {l x : List UInt8} {m : Nat} (h : txtR l = .ok (x,m)) : m ≤ l.length := by
 unfold txtR at h
 rcases hr:numR 0 0 l with y | ⟨U,k⟩
 ·rw [hr] at h; cases h
 ·rw [hr] at h
  dsimp only at h
  obtain ⟨hU,-,hm,-⟩:=numR_bound _ 0 0 U k hr (by omega) (by decide)
  by_cases h1:unz U < 0
  ·rw [if_pos h1] at h; cases h
  ·rw [if_neg h1] at h
   by_cases h2:((l.length - k:Nat):Int) < unz U
   ·rw [if_pos h2] at h; cases h
   ·rw [if_neg h2] at h
    injection h with h
    injection h with h3 h4
    omega
set_option maxRecDepth 100000 in
set_option maxHeartbeats 2000000 in
theorem n_Text (b : ByteArray) (rb : Nat) (s : RS) (W : World) (hb : b.size ≤ 1000000) (h : RdB W rb b s) : Calls Tryz.prog 64 #[.pointer (some ⟨rb,0,none⟩),.func (.func 65) #[] #[]] W (RdQ (.string (rdT s).1) b rb (rdT s).2 W) := by
  obtain ⟨r,bad⟩:=s
  obtain ⟨p,hB,hp,hr⟩:=h
  dsimp only at hB hr
  have c0:=(hB.cell 0).trans (show _=some (Value.string b) from rfl)
  have c1:=(hB.cell 1).trans (show _=some (Value.int .i64 (p:Int)) from rfl)
  have c2:=(hB.cell 2).trans (show _=some (Value.bool bad) from rfl)
  have d0:=pt_drew c0
  have d1:=pt_drew c1
  have f1:=hB.frozen 1
  have f2:=hB.frozen 2
  have HB:=Lib.hid hB
  clear hB
  cases bad with
  | true =>
    have HQ:=Lib.hid (show RdQ (.string (rdT ⟨r,true⟩).1) b rb (rdT ⟨r,true⟩).2 W (.returned (.string ⟨#[]⟩)) W from ⟨rfl,⟨p,HB.out,hp,hr⟩,World.grownBy.refl W _⟩)
    clear hr
    go_enter Tryz.func64,Tryz.ntmps64
    go_wp2_with fail
    go_ret
    exact HQ.out
  | false =>
    have hn:=c_TextR b p W.drew hb hp
    unfold TxtRE txtV txtP txtZ at hn
    have he:=rdT_eq r
    rw [hr] at hn
    rcases hx:txtR r with z | ⟨U,m⟩
    · rw [hx] at hn he
      dsimp only at hn he
      have hz:=txtR_err hx
      have HQ:=Lib.hid (fun W' (hW:RdQ (.string ⟨#[]⟩) b rb ⟨r,true⟩ W (.returned (.string ⟨#[]⟩)) W') => (by rw [he]; exact hW:RdQ (.string (rdT ⟨r,false⟩).1) b rb (rdT ⟨r,false⟩).2 W (.returned (.string ⟨#[]⟩)) W'))
      have HN:=Lib.hid hn
      have HR:=Lib.hid hr
      clear hn he hx hr
      go_enter Tryz.func64,Tryz.ntmps64
      go_upto_region 4 with fail
      go_region_law (first
        | ((try go_simp); go_at_call 65; (refine HN.out.mono ?_); rintro e w1 ⟨rfl,hw1⟩))
      all_goals
        have g2:w1.cell? ⟨rb,2,none⟩=some (.bool false):=by rw [← hw1]; exact c2
        have k2:w1.frozen? ⟨rb,2,none⟩=false:=by rw [← hw1]; exact f2
        rcases hz with rfl | rfl
        all_goals
          go_wp2_with fail
          go_ret
          refine HQ.out _ ⟨rfl,⟨p,?_,hp,HR.out⟩,?_⟩
          · rw [← hw1]; exact HB.out.drew.set_ 2 _
          · rw [← hw1]; exact gb_trans (only_drewN (World.grownBy.refl W _) 1) (grown_setCell _ ⟨rb,2,none⟩ _)
    · rw [hx] at hn he
      dsimp only at hn he
      have hm:=txtR_le hx
      have hrl:r.length=b.size - p:=by rw [← hr,List.length_drop,blOf_len]
      have HQ:=Lib.hid (fun W' (hW:RdQ (.string (bsOf U)) b rb ⟨r.drop m,false⟩ W (.returned (.string (bsOf U))) W') => (by rw [he]; exact hW:RdQ (.string (rdT ⟨r,false⟩).1) b rb (rdT ⟨r,false⟩).2 W (.returned (.string (bsOf U))) W'))
      have hdr:(blOf b).drop (p+m)=r.drop m:=by rw [← hr,List.drop_drop]
      generalize bsOf U=V at *
      obtain ⟨q,hq⟩:∃ q,p+m=q:=⟨_,rfl⟩
      rw [hq] at hn hdr
      have hqs:q ≤ b.size:=by omega
      have HN:=Lib.hid hn
      have HDR:=Lib.hid hdr
      clear hn he hx hr hdr hq hrl
      go_enter Tryz.func64,Tryz.ntmps64
      go_upto_region 4 with fail
      go_region_law (first
        | ((try go_simp); go_at_call 65; (refine HN.out.mono ?_); rintro e w1 ⟨rfl,hw1⟩))
      all_goals
        have g1:w1.cell? ⟨rb,1,none⟩=some (.int .i64 (p:Int)):=by rw [← hw1]; exact c1
        have k1:w1.frozen? ⟨rb,1,none⟩=false:=by rw [← hw1]; exact f1
        go_wp2_with fail
        go_ret
        refine HQ.out _ ⟨rfl,⟨q,?_,hqs,HDR.out⟩,?_⟩
        · rw [← hw1]; exact HB.out.drew.set_ 1 _
        · rw [← hw1]; exact gb_trans (only_drewN (World.grownBy.refl W _) 1) (grown_setCell _ ⟨rb,1,none⟩ _)
set_option maxHeartbeats 400000 in
theorem r_number (b : ByteArray) (rb : Nat) (s : RS) (W : World) (hb : b.size ≤ 1000000) (h : RdB W rb b s) : Calls Tryz.prog 42 #[.pointer (some ⟨rb,0,none⟩)] W (RdQ (.int .i64 (rdI s).1) b rb (rdI s).2 W) := by
 have HQ:=Lib.hid (n_Int b rb s W hb h)
 generalize (rdI s).1=v at *
 generalize (rdI s).2=s' at *
 clear h
 go_enter Tryz.func42,Tryz.ntmps42
 go_wp2_with fail
 refine HQ.out.mono ?_
 rintro e w1 ⟨rfl,h1,h2⟩
 go_wp2_with fail
 go_ret
 exact ⟨rfl,h1,h2⟩
set_option maxHeartbeats 400000 in
theorem r_textS (b : ByteArray) (rb : Nat) (s : RS) (W : World) (hb : b.size ≤ 1000000) (h : RdB W rb b s) : Calls Tryz.prog 41 #[.pointer (some ⟨rb,0,none⟩)] W (RdQ (.string (rdT s).1) b rb (rdT s).2 W) := by
 have HQ:=Lib.hid (n_Text b rb s W hb h)
 generalize (rdT s).1=v at *
 generalize (rdT s).2=s' at *
 clear h
 go_enter Tryz.func41,Tryz.ntmps41
 go_wp2_with fail
 refine HQ.out.mono ?_
 rintro e w1 ⟨rfl,h1,h2⟩
 go_wp2_with fail
 go_ret
 exact ⟨rfl,h1,h2⟩
end Go.Proofs.YtfinaekeoeeogaaGreatDoor
