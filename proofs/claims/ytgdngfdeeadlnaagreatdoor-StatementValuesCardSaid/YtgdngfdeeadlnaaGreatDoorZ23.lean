/- Contracts: codec.Int, codec.Text; a statement's reader reads a number, a text. And more. -/
import Derived.Test.YtgdngfdeeadlnaaGreatDoorZ22
import Derived.Test.YtgdngfdeeadlnaaGreatDoorZ16
import Derived.Test.YtgdngfdeeadlnaaGreatDoorZ10
import Derived.Test.YtgdngfdeeadlnaaGreatDoorZ21
import Derived.Test.YtgdngfdeeadlnaaGreatDoorZ11
set_option linter.unusedVariables false
set_option linter.unusedSimpArgs false
namespace Go.Proofs.YtgdngfdeeadlnaaGreatDoor
open Go.RowKit Num
theorem numR_err : ∀ (l : List UInt8) (i u : Nat) (z : Int),numR i u l = .error z → z = 4 ∨ z = 5
 | [],i,u,z,h => by injection h with h; exact .inr h.symm
 | c :: r,i,u,z,h => by
  unfold numR at h
  by_cases h1:(i=9 ∧ 1 < c.toNat) ∨ (0 < i ∧ c.toNat=0)
  ·rw [if_pos h1] at h; injection h with h; exact .inl h.symm
  rw [if_neg h1] at h
  by_cases h2:128 ≤ c.toNat
  ·rw [if_pos h2] at h; exact numR_err r (i+1) _ z h
  ·rw [if_neg h2] at h; cases h
theorem txtR_eq (l : List UInt8) : txtR l = match numR 0 0 l with
  | .error z => .error z
  | .ok (U,m) => if unz U < 0 then .error 4 else if ((l.length - m:Nat):Int) < unz U then .error 5 else .ok ((l.drop m).take (unz U).toNat,m+(unz U).toNat):=rfl
theorem rdI_eq (r : List UInt8) : rdI ⟨r,false⟩ = match numR 0 0 r with
  | .ok (U,m) => (unz U,⟨r.drop m,false⟩)
  | .error _ => (0,⟨r,true⟩):=rfl
theorem rdT_eq (r : List UInt8) : rdT ⟨r,false⟩ = match txtR r with
  | .ok (x,m) => (bsOf x,⟨r.drop m,false⟩)
  | .error _ => (⟨#[]⟩,⟨r,true⟩):=rfl
theorem pt_drew {W : World} {a : Addr} {v : Value} (h : W.cell? a = some v) : W.drew.cell? a = some v := h
theorem unz_in {U : Nat} (h : U < 18446744073709551616) : -9223372036854775808 ≤ unz U ∧ unz U < 9223372036854775808 := by
 unfold unz; split <;> omega
set_option maxHeartbeats 400000 in
theorem c_inside (b : ByteArray) (p : Nat) (w : World) (hp : p ≤ b.size) : Calls Tryz.prog 125 #[.string b,.int .i64 (p : Int)] w fun e w' => e = .returned (.bool true) ∧ w = w' := by
 have z0:(0:Int) ≤ (p:Int):=by omega
 have z1:(p:Int) ≤ (b.size:Int):=by omega
 go_enter Tryz.func125,Tryz.ntmps125
 go_wp2_with fail
 go_ret
 exact ⟨rfl,rfl⟩
set_option maxHeartbeats 400000 in
theorem c_Int (b : ByteArray) (p : Nat) (w : World) (hb : b.size ≤ 1000000) (hp : p ≤ b.size) : Calls Tryz.prog 101 #[.string b,.int .i64 (p : Int)] w (NumE b p w) := by
 have hn:=c_number b p w hb hp
 unfold NumE at hn ⊢
 generalize numV b p=v at *
 generalize numP b p=q at *
 generalize numZ b p=z at *
 have HN:=Lib.hid hn
 clear hn
 go_enter Tryz.func101,Tryz.ntmps101
 go_wp2_with fail
 refine (c_inside b p _ hp).mono ?_
 rintro e w1 ⟨rfl,rfl⟩
 go_wp2_with fail
 refine HN.out.mono ?_
 rintro e w2 ⟨rfl,rfl⟩
 go_wp2_with fail
 go_ret3
 exact ⟨rfl,rfl⟩
def txtV (b : ByteArray) (p : Nat) : ByteArray := match txtR ((blOf b).drop p) with | .ok (x,_) => bsOf x | .error _ => ⟨#[]⟩
def txtP (b : ByteArray) (p : Nat) : Nat := match txtR ((blOf b).drop p) with | .ok (_,m) => p + m | .error _ => p
def txtZ (b : ByteArray) (p : Nat) : Int := match txtR ((blOf b).drop p) with | .ok _ => 0 | .error z => z
def TxtRE (b : ByteArray) (p : Nat) (w : World) (e : Ending) (w' : World) : Prop := e = .returned (.tuple #[.string (txtV b p),.int .i64 (txtP b p : Int),.int .i64 (txtZ b p)]) ∧ w = w'
theorem TxtRE.bad {b : ByteArray} {p : Nat} {z : Int} {w : World} (h : txtR ((blOf b).drop p) = .error z) : TxtRE b p w (.returned (.tuple #[.string ⟨#[]⟩,.int .i64 (p : Int),.int .i64 z])) w := by
 unfold TxtRE txtV txtP txtZ; rw [h]; exact ⟨rfl,rfl⟩
theorem TxtRE.good {b : ByteArray} {p m : Nat} {x : List UInt8} {w : World} (h : txtR ((blOf b).drop p) = .ok (x,m)) : TxtRE b p w (.returned (.tuple #[.string (bsOf x),.int .i64 ((p + m : Nat) : Int),.int .i64 0])) w := by
 unfold TxtRE txtV txtP txtZ; rw [h]; exact ⟨rfl,rfl⟩
set_option maxRecDepth 100000 in
set_option maxHeartbeats 1000000 in
theorem text_end {b : ByteArray} {p q n d t : Nat} {w : World} (hN : Calls Tryz.prog 101 #[.string b,.int .i64 (p : Int)] w fun e w' => e = .returned (.tuple #[.int .i64 (n : Int),.int .i64 (q : Int),.int .i64 0]) ∧ w = w') (hT : TxtRE b p w (.returned (.tuple #[.string (b.extract q t),.int .i64 (t : Int),.int .i64 0])) w)
  (hsub:(b.size:Int) - (q:Int)=(d:Int)) (hqi:(q:Int)+(n:Int)=(t:Int)) (hts:t ≤ b.size) (hqs:q ≤ t) (n0:¬ (n:Int) < 0) (n1:¬ (d:Int) < (n:Int)) (d9:d ≤ 1000000) (t9:t ≤ 1000000) (q9:q ≤ 1000000):Calls Tryz.prog 99 #[.string b,.int .i64 (p:Int)] w (TxtRE b p w):=by
 have HN:=Lib.hid hN
 have HT:=Lib.hid hT
 have q0:(0:Int) ≤ (q:Int):=by omega
 have q1:(q:Int) ≤ (t:Int):=by omega
 have q2:(t:Int) ≤ (b.size:Int):=by omega
 clear hN hT
 go_enter Tryz.func99,Tryz.ntmps99
 go_wp2_with fail
 refine HN.out.mono ?_
 rintro e w1 ⟨rfl,rfl⟩
 clear HN
 go_wp2_with fail
 go_ret3
 exact HT.out
set_option maxRecDepth 100000 in
set_option maxHeartbeats 1000000 in
theorem c_TextR (b : ByteArray) (p : Nat) (w : World) (hb : b.size ≤ 1000000) (hp : p ≤ b.size) : Calls Tryz.prog 99 #[.string b,.int .i64 (p : Int)] w (TxtRE b p w) := by
 have hn:=c_Int b p w hb hp
 unfold NumE numV numP numZ at hn
 have ht:=txtR_eq ((blOf b).drop p)
 have hll:((blOf b).drop p).length=b.size - p:=by rw [List.length_drop,blOf_len]
 rcases hr:numR 0 0 ((blOf b).drop p) with z | ⟨U,m⟩
 ·rw [hr] at hn ht
  dsimp only at hn ht
  have hz:=numR_err _ _ _ _ hr
  have HT:=Lib.hid (TxtRE.bad (w:=w) ht)
  have HN:=Lib.hid hn
  clear hn ht hr hll
  rcases hz with rfl | rfl
  all_goals
   go_enter Tryz.func99,Tryz.ntmps99
   go_wp2_with fail
   refine HN.out.mono ?_
   rintro e w1 ⟨rfl,rfl⟩
   go_wp2_with fail
   go_ret3
   exact HT.out
 ·rw [hr] at hn ht
  dsimp only at hn ht
  obtain ⟨hU,-,hm,-⟩:=numR_bound _ 0 0 U m hr (by omega) (by decide)
  obtain ⟨hu1,hu2⟩:=unz_in hU
  rw [Nat.zero_add,hll] at hm
  rw [hll] at ht
  generalize unz U=V at *
  by_cases h1:V < 0
  ·rw [if_pos h1] at ht
   have HT:=Lib.hid (TxtRE.bad (w:=w) ht)
   have HN:=Lib.hid hn
   clear hn ht hr hll
   go_enter Tryz.func99,Tryz.ntmps99
   go_wp2_with fail
   refine HN.out.mono ?_
   rintro e w1 ⟨rfl,rfl⟩
   go_wp2_with fail
   go_ret3
   exact HT.out
  ·rw [if_neg h1] at ht
   obtain ⟨q,hq⟩:∃ q,p+m=q:=⟨_,rfl⟩
   rw [hq] at hn
   have hsub:(b.size:Int) - (q:Int)=((b.size - q:Nat):Int):=by omega
   obtain ⟨d,hd⟩:∃ d,b.size - q=d:=⟨_,rfl⟩
   rw [hd] at hsub
   have hd2:b.size - p - m=d:=by omega
   rw [hd2] at ht
   by_cases h2:(d:Int) < V
   ·rw [if_pos h2] at ht
    have HT:=Lib.hid (TxtRE.bad (w:=w) ht)
    have HN:=Lib.hid hn
    clear hn ht hr hll hd hd2 hq
    go_enter Tryz.func99,Tryz.ntmps99
    go_wp2_with fail
    refine HN.out.mono ?_
    rintro e w1 ⟨rfl,rfl⟩
    go_wp2_with fail
    go_ret3
    exact HT.out
   ·rw [if_neg h2] at ht
    obtain ⟨n,rfl⟩:∃ n:Nat,V=(n:Int):=⟨V.toNat,by omega⟩
    rw [Int.toNat_natCast] at ht
    have hg:=TxtRE.good (w:=w) ht
    have hex:bsOf ((((blOf b).drop p).drop m).take n)=b.extract q (q+n):=by
     rw [extract_drop,List.drop_drop,hq,show q+n - q=n by omega]
    rw [hex,show p+(m+n)=q+n by omega] at hg
    have HT:=Lib.hid hg
    have HN:=Lib.hid hn
    obtain ⟨t,hqt⟩:∃ t,q+n=t:=⟨_,rfl⟩
    rw [hqt] at HT
    have hqi:(q:Int)+(n:Int)=(t:Int):=by omega
    have hts:t ≤ b.size:=by omega
    have hqs:q ≤ t:=by omega
    have n0:¬ (n:Int) < 0:=by omega
    have n1:¬ (d:Int) < (n:Int):=by omega
    clear hn ht hr hll hd hd2 hq hg hex hqt hm hu1 hu2 h1 h2 hU
    exact text_end HN.out HT.out hsub hqi hts hqs n0 n1 (by omega) (by omega) (by omega)
def RdB (W : World) (rb : Nat) (b : ByteArray) (s : RS) : Prop := ∃ p : Nat,Blk W rb 110 #[.string b,.int .i64 (p : Int),.bool s.bad] ∧ p ≤ b.size ∧ (blOf b).drop p = s.rest
theorem RdB.keep {W W' : World} {rb : Nat} {b : ByteArray} {s : RS} (h : RdB W rb b s) (hb : W'.heap[rb]? = W.heap[rb]?) : RdB W' rb b s := by
 obtain ⟨p,h1,h2,h3⟩:=h
 exact ⟨p,hb.trans h1,h2,h3⟩
theorem RdB.lt {W : World} {rb : Nat} {b : ByteArray} {s : RS} (h : RdB W rb b s) : rb < W.heap.size := by
 obtain ⟨p,h1,h2,h3⟩:=h
 exact h1.lt
theorem rdI_in (s : RS) : -9223372036854775808 ≤ (rdI s).1 ∧ (rdI s).1 < 9223372036854775808 := by
 unfold rdI
 by_cases h:s.bad=true
 ·rw [if_pos h]; exact ⟨(show (-9223372036854775808:Int) ≤ 0 by decide),(show (0:Int) < 9223372036854775808 by decide)⟩
 ·rw [if_neg h]
  rcases hr:numR 0 0 s.rest with z | ⟨U,m⟩
  ·exact ⟨(show (-9223372036854775808:Int) ≤ 0 by decide),(show (0:Int) < 9223372036854775808 by decide)⟩
  ·exact unz_in (numR_bound _ 0 0 U m hr (by omega) (by decide)).1
def RdQ (v : Value) (b : ByteArray) (rb : Nat) (s : RS) (W : World) (e : Ending) (W' : World) : Prop := e = .returned v ∧ RdB W' rb b s ∧ W.grownBy W' (some rb)
set_option maxRecDepth 100000 in
set_option maxHeartbeats 2000000 in
theorem n_Int (b : ByteArray) (rb : Nat) (s : RS) (W : World) (hb : b.size ≤ 1000000) (h : RdB W rb b s) : Calls Tryz.prog 100 #[.pointer (some ⟨rb,0,none⟩),.func (.func 101) #[] #[]] W (RdQ (.int .i64 (rdI s).1) b rb (rdI s).2 W) := by
  obtain ⟨r,bad⟩:=s
  obtain ⟨p,hB,hp,hr⟩:=h
  dsimp only at hB hr
  have c0:=(hB.cell 0).trans (show _=some (Value.string b) from rfl)
  have c1:=(hB.cell 1).trans (show _=some (Value.int .i64 (p:Int)) from rfl)
  have c2:=(hB.cell 2).trans (show _=some (Value.bool bad) from rfl)
  have d0:=pt_drew c0
  have d1:=pt_drew c1
  have f1:=hB.frozen 1
  have f2:=hB.frozen 2
  have HB:=Lib.hid hB
  clear hB
  cases bad with
  | true =>
    have HQ:=Lib.hid (show RdQ (.int .i64 (rdI ⟨r,true⟩).1) b rb (rdI ⟨r,true⟩).2 W (.returned (.int .i64 0)) W from ⟨rfl,⟨p,HB.out,hp,hr⟩,World.grownBy.refl W _⟩)
    clear hr
    go_enter Tryz.func100,Tryz.ntmps100
    go_wp2_with fail
    go_ret
    exact HQ.out
  | false =>
    have hn:=c_Int b p W.drew hb hp
    unfold NumE numV numP numZ at hn
    have he:=rdI_eq r
    rw [hr] at hn
    rcases hx:numR 0 0 r with z | ⟨U,m⟩
    · rw [hx] at hn he
      dsimp only at hn he
      have hz:=numR_err _ _ _ _ hx
      have HQ:=Lib.hid (fun W' (hW:RdQ (.int .i64 0) b rb ⟨r,true⟩ W (.returned (.int .i64 0)) W') => (by rw [he]; exact hW:RdQ (.int .i64 (rdI ⟨r,false⟩).1) b rb (rdI ⟨r,false⟩).2 W (.returned (.int .i64 0)) W'))
      have HN:=Lib.hid hn
      have HR:=Lib.hid hr
      clear hn he hx hr
      go_enter Tryz.func100,Tryz.ntmps100
      go_upto_region 4 with fail
      go_region_law (first
        | ((try go_simp); go_at_call 101; (refine HN.out.mono ?_); rintro e w1 ⟨rfl,hw1⟩))
      all_goals
        have g2:w1.cell? ⟨rb,2,none⟩=some (.bool false):=by rw [← hw1]; exact c2
        have k2:w1.frozen? ⟨rb,2,none⟩=false:=by rw [← hw1]; exact f2
        rcases hz with rfl | rfl
        all_goals
          go_wp2_with fail
          go_ret
          refine HQ.out _ ⟨rfl,⟨p,?_,hp,HR.out⟩,?_⟩
          · rw [← hw1]; exact HB.out.drew.set_ 2 _
          · rw [← hw1]; exact gb_trans (only_drewN (World.grownBy.refl W _) 1) (grown_setCell _ ⟨rb,2,none⟩ _)
    · rw [hx] at hn he
      dsimp only at hn he
      obtain ⟨hU,-,hm,-⟩:=numR_bound _ 0 0 U m hx (by omega) (by decide)
      have hrl:r.length=b.size - p:=by rw [← hr,List.length_drop,blOf_len]
      have HQ:=Lib.hid (fun W' (hW:RdQ (.int .i64 (unz U)) b rb ⟨r.drop m,false⟩ W (.returned (.int .i64 (unz U))) W') => (by rw [he]; exact hW:RdQ (.int .i64 (rdI ⟨r,false⟩).1) b rb (rdI ⟨r,false⟩).2 W (.returned (.int .i64 (unz U))) W'))
      have hdr:(blOf b).drop (p+m)=r.drop m:=by rw [← hr,List.drop_drop]
      generalize unz U=V at *
      obtain ⟨q,hq⟩:∃ q,p+m=q:=⟨_,rfl⟩
      rw [hq] at hn hdr
      have hqs:q ≤ b.size:=by omega
      have HN:=Lib.hid hn
      have HDR:=Lib.hid hdr
      clear hn he hx hr hdr hq hrl
      go_enter Tryz.func100,Tryz.ntmps100
      go_upto_region 4 with fail
      go_region_law (first
        | ((try go_simp); go_at_call 101; (refine HN.out.mono ?_); rintro e w1 ⟨rfl,hw1⟩))
      all_goals
        have g1:w1.cell? ⟨rb,1,none⟩=some (.int .i64 (p:Int)):=by rw [← hw1]; exact c1
        have k1:w1.frozen? ⟨rb,1,none⟩=false:=by rw [← hw1]; exact f1
        go_wp2_with fail
        go_ret
        refine HQ.out _ ⟨rfl,⟨q,?_,hqs,HDR.out⟩,?_⟩
        · rw [← hw1]; exact HB.out.drew.set_ 1 _
        · rw [← hw1]; exact gb_trans (only_drewN (World.grownBy.refl W _) 1) (grown_setCell _ ⟨rb,1,none⟩ _)
theorem txtR_err {l : List UInt8} {z : Int} (h : txtR l = .error z) : z = 4 ∨ z = 5 := by
 unfold txtR at h
 rcases hr:numR 0 0 l with y | ⟨U,m⟩
 ·rw [hr] at h
  injection h with h
  subst h
  exact numR_err _ _ _ _ hr
 ·rw [hr] at h
  dsimp only at h
  by_cases h1:unz U < 0
  ·rw [if_pos h1] at h; injection h with h; exact .inl h.symm
  ·rw [if_neg h1] at h
   by_cases h2:((l.length - m:Nat):Int) < unz U
   ·rw [if_pos h2] at h; injection h with h; exact .inr h.symm
   ·rw [if_neg h2] at h; cases h
theorem txtR_le {l x : List UInt8} {m : Nat} (h : txtR l = .ok (x,m)) : m ≤ l.length := by
 unfold txtR at h
 rcases hr:numR 0 0 l with y | ⟨U,k⟩
 ·rw [hr] at h; cases h
 ·rw [hr] at h
  dsimp only at h
  obtain ⟨hU,-,hm,-⟩:=numR_bound _ 0 0 U k hr (by omega) (by decide)
  by_cases h1:unz U < 0
  ·rw [if_pos h1] at h; cases h
  ·rw [if_neg h1] at h
   by_cases h2:((l.length - k:Nat):Int) < unz U
   ·rw [if_pos h2] at h; cases h
   ·rw [if_neg h2] at h
    injection h with h
    injection h with h3 h4
    omega
set_option maxRecDepth 100000 in
set_option maxHeartbeats 2000000 in
theorem n_Text (b : ByteArray) (rb : Nat) (s : RS) (W : World) (hb : b.size ≤ 1000000) (h : RdB W rb b s) : Calls Tryz.prog 98 #[.pointer (some ⟨rb,0,none⟩),.func (.func 99) #[] #[]] W (RdQ (.string (rdT s).1) b rb (rdT s).2 W) := by
  obtain ⟨r,bad⟩:=s
  obtain ⟨p,hB,hp,hr⟩:=h
  dsimp only at hB hr
  have c0:=(hB.cell 0).trans (show _=some (Value.string b) from rfl)
  have c1:=(hB.cell 1).trans (show _=some (Value.int .i64 (p:Int)) from rfl)
  have c2:=(hB.cell 2).trans (show _=some (Value.bool bad) from rfl)
  have d0:=pt_drew c0
  have d1:=pt_drew c1
  have f1:=hB.frozen 1
  have f2:=hB.frozen 2
  have HB:=Lib.hid hB
  clear hB
  cases bad with
  | true =>
    have HQ:=Lib.hid (show RdQ (.string (rdT ⟨r,true⟩).1) b rb (rdT ⟨r,true⟩).2 W (.returned (.string ⟨#[]⟩)) W from ⟨rfl,⟨p,HB.out,hp,hr⟩,World.grownBy.refl W _⟩)
    clear hr
    go_enter Tryz.func98,Tryz.ntmps98
    go_wp2_with fail
    go_ret
    exact HQ.out
  | false =>
    have hn:=c_TextR b p W.drew hb hp
    unfold TxtRE txtV txtP txtZ at hn
    have he:=rdT_eq r
    rw [hr] at hn
    rcases hx:txtR r with z | ⟨U,m⟩
    · rw [hx] at hn he
      dsimp only at hn he
      have hz:=txtR_err hx
      have HQ:=Lib.hid (fun W' (hW:RdQ (.string ⟨#[]⟩) b rb ⟨r,true⟩ W (.returned (.string ⟨#[]⟩)) W') => (by rw [he]; exact hW:RdQ (.string (rdT ⟨r,false⟩).1) b rb (rdT ⟨r,false⟩).2 W (.returned (.string ⟨#[]⟩)) W'))
      have HN:=Lib.hid hn
      have HR:=Lib.hid hr
      clear hn he hx hr
      go_enter Tryz.func98,Tryz.ntmps98
      go_upto_region 4 with fail
      go_region_law (first
        | ((try go_simp); go_at_call 99; (refine HN.out.mono ?_); rintro e w1 ⟨rfl,hw1⟩))
      all_goals
        have g2:w1.cell? ⟨rb,2,none⟩=some (.bool false):=by rw [← hw1]; exact c2
        have k2:w1.frozen? ⟨rb,2,none⟩=false:=by rw [← hw1]; exact f2
        rcases hz with rfl | rfl
        all_goals
          go_wp2_with fail
          go_ret
          refine HQ.out _ ⟨rfl,⟨p,?_,hp,HR.out⟩,?_⟩
          · rw [← hw1]; exact HB.out.drew.set_ 2 _
          · rw [← hw1]; exact gb_trans (only_drewN (World.grownBy.refl W _) 1) (grown_setCell _ ⟨rb,2,none⟩ _)
    · rw [hx] at hn he
      dsimp only at hn he
      have hm:=txtR_le hx
      have hrl:r.length=b.size - p:=by rw [← hr,List.length_drop,blOf_len]
      have HQ:=Lib.hid (fun W' (hW:RdQ (.string (bsOf U)) b rb ⟨r.drop m,false⟩ W (.returned (.string (bsOf U))) W') => (by rw [he]; exact hW:RdQ (.string (rdT ⟨r,false⟩).1) b rb (rdT ⟨r,false⟩).2 W (.returned (.string (bsOf U))) W'))
      have hdr:(blOf b).drop (p+m)=r.drop m:=by rw [← hr,List.drop_drop]
      generalize bsOf U=V at *
      obtain ⟨q,hq⟩:∃ q,p+m=q:=⟨_,rfl⟩
      rw [hq] at hn hdr
      have hqs:q ≤ b.size:=by omega
      have HN:=Lib.hid hn
      have HDR:=Lib.hid hdr
      clear hn he hx hr hdr hq hrl
      go_enter Tryz.func98,Tryz.ntmps98
      go_upto_region 4 with fail
      go_region_law (first
        | ((try go_simp); go_at_call 99; (refine HN.out.mono ?_); rintro e w1 ⟨rfl,hw1⟩))
      all_goals
        have g1:w1.cell? ⟨rb,1,none⟩=some (.int .i64 (p:Int)):=by rw [← hw1]; exact c1
        have k1:w1.frozen? ⟨rb,1,none⟩=false:=by rw [← hw1]; exact f1
        go_wp2_with fail
        go_ret
        refine HQ.out _ ⟨rfl,⟨q,?_,hqs,HDR.out⟩,?_⟩
        · rw [← hw1]; exact HB.out.drew.set_ 1 _
        · rw [← hw1]; exact gb_trans (only_drewN (World.grownBy.refl W _) 1) (grown_setCell _ ⟨rb,1,none⟩ _)
set_option maxHeartbeats 400000 in
theorem r_number (b : ByteArray) (rb : Nat) (s : RS) (W : World) (hb : b.size ≤ 1000000) (h : RdB W rb b s) : Calls Tryz.prog 60 #[.pointer (some ⟨rb,0,none⟩)] W (RdQ (.int .i64 (rdI s).1) b rb (rdI s).2 W) := by
 have HQ:=Lib.hid (n_Int b rb s W hb h)
 generalize (rdI s).1=v at *
 generalize (rdI s).2=s' at *
 clear h
 go_enter Tryz.func60,Tryz.ntmps60
 go_wp2_with fail
 refine HQ.out.mono ?_
 rintro e w1 ⟨rfl,h1,h2⟩
 go_wp2_with fail
 go_ret
 exact ⟨rfl,h1,h2⟩
set_option maxHeartbeats 400000 in
theorem r_textS (b : ByteArray) (rb : Nat) (s : RS) (W : World) (hb : b.size ≤ 1000000) (h : RdB W rb b s) : Calls Tryz.prog 59 #[.pointer (some ⟨rb,0,none⟩)] W (RdQ (.string (rdT s).1) b rb (rdT s).2 W) := by
 have HQ:=Lib.hid (n_Text b rb s W hb h)
 generalize (rdT s).1=v at *
 generalize (rdT s).2=s' at *
 clear h
 go_enter Tryz.func59,Tryz.ntmps59
 go_wp2_with fail
 refine HQ.out.mono ?_
 rintro e w1 ⟨rfl,h1,h2⟩
 go_wp2_with fail
 go_ret
 exact ⟨rfl,h1,h2⟩
set_option maxRecDepth 100000 in
set_option maxHeartbeats 2000000 in
theorem r_times {α : Type} (b : ByteArray) (rb : Nat) (item : RS → α × RS) (K : FuncId) (caps : Array Value) (J : List α → RS → World → Prop) (hb : b.size ≤ 1000000)
  (hcf:∀ (args:Array Value) (W:World),(callFunc K args).run Tryz.prog W=.ok (.enter K args) W)
  (hrd:∀ l s W,J l s W → RdB W rb b s) (hcall:∀ l s s' W W',J l s W → RdB W' rb b s' → W.grownBy W' (some rb) → J l s' W')
  (hitem:∀ l s W,l.length < 256 → J l s W → Calls Tryz.prog K caps W fun e W' => e=.returned (.tuple #[]) ∧ J (l ++ [(item s).1]) (item s).2 W') (s:RS) (W:World) (h:J [] s W) :
  Calls Tryz.prog 61 #[.pointer (some ⟨rb,0,none⟩),.func (.func K) #[] caps] W fun e W' => e=.returned (.tuple #[]) ∧ J (rdTimes item s).1 (rdTimes item s).2 W':=by
 have hnum:=r_number b rb s W hb (hrd _ _ _ h)
 have hin:=rdI_in s
 have hdef:rdTimes item s=if (rdI s).1 < 0 ∨ 256 < (rdI s).1 then ([],⟨(rdI s).2.rest,true⟩) else timesR item (rdI s).1.toNat (rdI s).2:=rfl
 rw [hdef]
 clear hdef
 generalize (rdI s).1=n at *
 generalize (rdI s).2=s1 at *
 have HNUM:=Lib.hid hnum
 have HJ:=Lib.hid (fun W' (h1:RdB W' rb b s1) (h2:W.grownBy W' (some rb)) => hcall _ _ s1 W W' h h1 h2)
 have HRD:=Lib.hid hrd
 have HCALL:=Lib.hid hcall
 have HITEM:=Lib.hid hitem
 clear hnum hrd hcall hitem h
 by_cases hbad:n < 0 ∨ 256 < n
 ·rw [if_pos hbad]
  go_enter Tryz.func61,Tryz.ntmps61
  go_wp2_with fail
  refine HNUM.out.mono ?_
  rintro e w1 ⟨rfl,hr1,hg1⟩
  have hj1:=HJ.out w1 hr1 hg1
  obtain ⟨p,hB,hp,hdr⟩:=id hr1
  have hr2:RdB (w1.setCell ⟨rb,2,none⟩ (.bool true)) rb b ⟨s1.rest,true⟩:=⟨p,hB.set_ 2 _,hp,hdr⟩
  have hj2:=HCALL.out _ _ _ _ _ hj1 hr2 (grown_setCell w1 ⟨rb,2,none⟩ _)
  have c2:=(hB.cell 2).trans (show _=some (Value.bool s1.bad) from rfl)
  have f2:=hB.frozen 2
  have d2:=((hB.set_ 2 (.bool true)).cell 2).trans (show _=some (Value.bool true) from rfl)
  have HJ2:=Lib.hid hj2
  clear hr1 hg1 hj1 hB hp hdr hr2 hj2 HNUM HJ HRD HCALL HITEM
  by_cases h0:n < 0
  ·have z0:¬ (0:Int) < n:=by omega
   clear hbad
   go_wp2_with fail
   go_loopw [4] (fun v4 wr => v4=.int .i64 n ∧ (w1.setCell ⟨rb,2,none⟩ (.bool true))=wr) (fun _ _ => 0)
   case atStart => exact ⟨rfl,rfl⟩
   case round =>
    obtain ⟨rfl,rfl⟩:=hrel
    go_wp2_with fail
    go_end0
    exact ⟨rfl,HJ2.out⟩
  ·have z0:(0:Int) < n:=by omega
   have z1:(256:Int) < n:=by omega
   clear hbad
   go_wp2_with fail
   go_loopw [4] (fun v4 wr => v4=.int .i64 n ∧ (w1.setCell ⟨rb,2,none⟩ (.bool true))=wr) (fun _ _ => 0)
   case atStart => exact ⟨rfl,rfl⟩
   case round =>
    obtain ⟨rfl,rfl⟩:=hrel
    go_wp2_with fail
    go_end0
    exact ⟨rfl,HJ2.out⟩
 ·rw [if_neg hbad]
  obtain ⟨m,rfl⟩:∃ m:Nat,n=(m:Int):=⟨n.toNat,by omega⟩
  rw [Int.toNat_natCast]
  have hm:m ≤ 256:=by omega
  have z0:¬ (m:Int) < 0:=by omega
  have z1:¬ (256:Int) < (m:Int):=by omega
  clear hbad hin
  go_enter Tryz.func61,Tryz.ntmps61
  go_wp2_with fail
  refine HNUM.out.mono ?_
  rintro e w1 ⟨rfl,hr1,hg1⟩
  have HJ1:=Lib.hid (HJ.out w1 hr1 hg1)
  clear hr1 hg1 HNUM HJ
  go_wp2_with fail
  go_loopw [4] (fun v4 wr => ∃ (k:Nat) (l:List α) (s':RS),k ≤ m ∧ v4=.int .i64 (k:Int) ∧ l.length+k ≤ m ∧ J l s' wr ∧ timesR item m s1=(l ++ (timesR item k s').1,(timesR item k s').2)) (fun v4 _ => (intOf v4).toNat)
  case atStart => exact ⟨m,[],s1,Nat.le_refl _,rfl,by show 0+m ≤ m; omega,HJ1.out,rfl⟩
  case round =>
   obtain ⟨k,l,s',hk,rfl,hlk,hj,ht⟩:=hrel
   obtain ⟨p,hB,hp,hdr⟩:=HRD.out _ _ _ hj
   have c2:=(hB.cell 2).trans (show _=some (Value.bool s'.bad) from rfl)
   have HJK:=Lib.hid hj
   have HT:=Lib.hid ht
   clear hj ht hB hp hdr
   cases k with
   | zero =>
    have zk:¬ (0:Int) < ((0:Nat):Int):=by omega
    go_wp2_with fail
    go_end0
    refine ⟨rfl,?_⟩
    have e:=HT.out
    rw [show timesR item 0 s'=([],s') from rfl,List.append_nil] at e
    rw [e]; exact HJK.out
   | succ k =>
    have zk:(0:Int) < ((k+1:Nat):Int):=by omega
    have zs:((k+1:Nat):Int) - 1=(k:Int):=by omega
    obtain ⟨k1,hk1⟩:∃ k1,k+1=k1:=⟨_,rfl⟩
    rw [hk1] at zk zs hk hlk ⊢
    have HK1:=Lib.hid hk1
    clear hk1
    obtain ⟨bd,hbd⟩:∃ bd,s'.bad=bd:=⟨_,rfl⟩
    rw [hbd] at c2
    cases bd with
    | true =>
     have HBD:=Lib.hid hbd
     clear hbd
     go_wp2_with fail
     go_end0
     refine ⟨rfl,?_⟩
     have e:=HT.out
     rw [show timesR item (k+1) s'=([],s') from if_pos HBD.out,List.append_nil] at e
     rw [e]; exact HJK.out
    | false =>
     have HBD:=Lib.hid hbd
     have hit:=HITEM.out l s' wr (by have:=HK1.out; omega) HJK.out
     have HIT:=Lib.hid hit
     clear hbd hit
     go_wp2_with fail
     refine HIT.out.mono ?_
     rintro e w2 ⟨rfl,hj2⟩
     have HJ2:=Lib.hid hj2
     clear hj2
     go_wp2_with fail
     go_roundw
     case measure => have:=HK1.out; simp [intOf]; omega
     case rel => exact ⟨k,_,_,by have:=HK1.out; omega,by go_num,by have:=HK1.out; rw [List.length_append]; show _+1+k ≤ m; omega,HJ2.out,by
      have e:=HT.out
      rw [show timesR item (k+1) s'=_ from if_neg (by rw [HBD.out]; simp)] at e
      rw [e,List.append_assoc]; rfl⟩
structure RSt (w W : World) (b : ByteArray) (tb : Nat) (s : RS) (st : Stm) (va vc vs : Value) : Prop where
  rd : RdB W (w.heap.size + 1) b s
  ptr : Blk W (w.heap.size + 2) 108 #[.pointer (some ⟨w.heap.size + 1, 0, none⟩)]
  res : Blk W w.heap.size 29 stmZ
  blk : Blk W tb 29 #[.string st.resp, .int .i64 st.dep, .int .i64 st.day, va, vc, vs]
  oa : W.ownsRow tb 50 3 va st.ans.length (ansC st.ans)
  os : W.ownsRow tb 73 2 vs st.shw.length (shwC st.shw)
  cc : TermsAt W (fun q => tb < q ∧ q < W.heap.size ∧ va.ownBlock ≠ some q ∧ vs.ownBlock ≠ some q) vc st.cond
  old : Below w.heap.size w W
  tlt : w.heap.size + 2 < tb
section
variable {w W W' : World} {b : ByteArray} {tb : Nat} {s s' : RS} {st : Stm} {va vc vs : Value} {o : Obj}
theorem RSt.call (h : RSt w W b tb s st va vc vs) (hr : RdB W' (w.heap.size + 1) b s') (hg : W.grownBy W' (some (w.heap.size + 1))) : RSt w W' b tb s' st va vc vs := by
 have h1:=h.tlt
 have l1:=h.blk.lt
 have kb:∀ q,q < W.heap.size → q ≠ w.heap.size+1 → W'.heap[q]?=W.heap[q]?:=fun q hq hne => hg.block q hq (fun e => hne (Option.some.inj e))
 have kr:∀ v:Value,(∀ g,v.ownBlock=some g → tb ≤ g) → v.ownBlock=none ∨ v.ownBlock ≠ some (w.heap.size+1):=fun v hv => by
  rcases hb:v.ownBlock with _ | q
  ·exact .inl rfl
  ·refine .inr fun e => ?_
   injection e with e
   have:=hv q hb
   omega
 exact ⟨hr,(kb _ (by omega) (by omega)).trans h.ptr,(kb _ (by omega) (by omega)).trans h.res,(kb tb l1 (by omega)).trans h.blk,h.oa.kept hg (kr va fun g hg => (h.oa.lt g hg).1),h.os.kept hg (kr vs fun g hg => (h.os.lt g hg).1),
  (h.cc.keep fun q hq => kb q hq.2.1 (by omega)).mono fun q hq => ⟨hq.1,Nat.lt_of_lt_of_le hq.2.1 hg.size,hq.2.2⟩,
  h.old.grown hg (by omega) (fun g hg => by injection hg; omega),h1⟩
theorem RSt.below (h : RSt w W b tb s st va vc vs) (hb : Below W.heap.size W W') : RSt w W' b tb s st va vc vs :=
 h.call (h.rd.keep (hb.block _ h.rd.lt)) (only_of_below hb _)
theorem RSt.alloc (h : RSt w W b tb s st va vc vs) (o : Obj) : RSt w (W.alloc o) b tb s st va vc vs := h.below (below_al' W o)
theorem RSt.drew (h : RSt w W b tb s st va vc vs) : RSt w W.drew b tb s st va vc vs := h.below (Below.refl _ _).drew
theorem RSt.c3 (h : RSt w W b tb s st va vc vs) : W.cell? ⟨tb,3,none⟩ = some va := (h.blk.cell 3).trans rfl
theorem RSt.c5 (h : RSt w W b tb s st va vc vs) : W.cell? ⟨tb,5,none⟩ = some vs := (h.blk.cell 5).trans rfl
theorem RSt.cp (h : RSt w W b tb s st va vc vs) : W.cell? ⟨w.heap.size + 2,0,none⟩ = some (.pointer (some ⟨w.heap.size + 1,0,none⟩)) := (h.ptr.cell 0).trans rfl
theorem RSt.pushA (h : RSt w W b tb s st va vc vs) {v' : Value} {a : Ans} (hown : W'.ownsRow tb 50 3 v' (st.ans.length + 1) (ansC st.ans ++ [.string a.field,.string a.text,.int .i64 a.num])) (hg : (W.alloc o).grownBy W' va.ownBlock) (hat : v'.ownBlock = va.ownBlock ∨ v'.ownBlock = some (W.heap.size + 1)) :
  RSt w (W'.setCell ⟨tb,3,none⟩ v') b tb s { st with ans:=st.ans ++ [a] } v' vc vs ∧ W'.cell? ⟨tb,3,none⟩=some va ∧ W'.frozen? ⟨tb,3,none⟩=false:=by
 have hva:=own_above h.oa h.blk (by decide)
 have h1:=h.tlt
 have l1:=h.blk.lt
 have hsz:=hg.size
 simp only [World.size_alloc] at hsz
 have kb:∀ q,q < W.heap.size → va.ownBlock ≠ some q → W'.heap[q]?=W.heap[q]?:=fun q hq hne => (hg.block q (by simp; omega) (fun e => hne e.symm)).trans (Below.heap_alloc W o q hq)
 have kl:∀ q,q ≤ tb → W'.heap[q]?=W.heap[q]?:=fun q hq => kb q (by omega) (fun e => by have:=hva q e; omega)
 have hb:Blk W' tb 29 #[.string st.resp,.int .i64 st.dep,.int .i64 st.day,va,vc,vs]:=(kl tb (Nat.le_refl _)).trans h.blk
 have hset:W'.grownBy (W'.setCell ⟨tb,3,none⟩ v') (some tb):=grown_setCell W' ⟨tb,3,none⟩ v'
 have hss:=hset.size
 have k2:∀ q,q < W.heap.size → va.ownBlock ≠ some q → q ≠ tb → (W'.setCell ⟨tb,3,none⟩ v').heap[q]?=W.heap[q]?:=fun q hq hne h9 => (hset.block q (by omega) (fun e => h9 (Option.some.inj e))).trans (kb q hq hne)
 have k3:∀ q,q < tb → (W'.setCell ⟨tb,3,none⟩ v').heap[q]?=W.heap[q]?:=fun q hq => k2 q (by omega) (fun e => by have:=hva q e; omega) (by omega)
 have hav:∀ g,v'.ownBlock=some g → tb < g:=own_above hown hb (by decide)
 have hos:W'.ownsRow tb 73 2 vs st.shw.length (shwC st.shw):=(h.os.alloc o).kept hg (own_ne h.os h.oa (by decide))
 refine ⟨⟨h.rd.keep (k3 _ (by omega)),(k3 _ (by omega)).trans h.ptr,(k3 _ (by omega)).trans h.res,hb.set_ 3 v',?_,hos.kept hset (.inr fun e => by have:=own_above hos hb (by decide) tb e; omega),?_,?_,h1⟩,(hb.cell 3).trans rfl,hb.frozen 3⟩
 ·show (W'.setCell _ _).ownsRow tb _ 3 v' (st.ans ++ [a]).length (ansC (st.ans ++ [a]))
  rw [List.length_append,ansC_snoc]
  exact hown.kept hset (.inr fun e => by have:=hav tb e; omega)
 ·exact (h.cc.keep fun q hq => k2 q hq.2.1 hq.2.2.1 (by omega)).mono fun q hq => ⟨hq.1,by have:=hq.2.1; omega,fun e => by
   rcases hat with e2 | e2
   ·exact hq.2.2.1 (e2 ▸ e)
   ·rw [e2] at e; injection e with e; have:=hq.2.1; omega,hq.2.2.2⟩
 ·exact ⟨hset.os.trans (hg.os.trans h.old.os),hset.tape.trans (hg.tape.trans h.old.tape),hset.output.trans (hg.output.trans h.old.output),by have:=h.old.size; omega,fun q hq => (k3 q (by omega)).trans (h.old.block q hq)⟩
theorem RSt.pushS (h : RSt w W b tb s st va vc vs) {v' : Value} {a : Shw} (hown : W'.ownsRow tb 73 2 v' (st.shw.length + 1) (shwC st.shw ++ [.string a.field,.string a.role])) (hg : (W.alloc o).grownBy W' vs.ownBlock) (hat : v'.ownBlock = vs.ownBlock ∨ v'.ownBlock = some (W.heap.size + 1)) :
  RSt w (W'.setCell ⟨tb,5,none⟩ v') b tb s { st with shw:=st.shw ++ [a] } va vc v' ∧ W'.cell? ⟨tb,5,none⟩=some vs ∧ W'.frozen? ⟨tb,5,none⟩=false:=by
 have hva:=own_above h.os h.blk (by decide)
 have h1:=h.tlt
 have l1:=h.blk.lt
 have hsz:=hg.size
 simp only [World.size_alloc] at hsz
 have kb:∀ q,q < W.heap.size → vs.ownBlock ≠ some q → W'.heap[q]?=W.heap[q]?:=fun q hq hne => (hg.block q (by simp; omega) (fun e => hne e.symm)).trans (Below.heap_alloc W o q hq)
 have kl:∀ q,q ≤ tb → W'.heap[q]?=W.heap[q]?:=fun q hq => kb q (by omega) (fun e => by have:=hva q e; omega)
 have hb:Blk W' tb 29 #[.string st.resp,.int .i64 st.dep,.int .i64 st.day,va,vc,vs]:=(kl tb (Nat.le_refl _)).trans h.blk
 have hset:W'.grownBy (W'.setCell ⟨tb,5,none⟩ v') (some tb):=grown_setCell W' ⟨tb,5,none⟩ v'
 have hss:=hset.size
 have k2:∀ q,q < W.heap.size → vs.ownBlock ≠ some q → q ≠ tb → (W'.setCell ⟨tb,5,none⟩ v').heap[q]?=W.heap[q]?:=fun q hq hne h9 => (hset.block q (by omega) (fun e => h9 (Option.some.inj e))).trans (kb q hq hne)
 have k3:∀ q,q < tb → (W'.setCell ⟨tb,5,none⟩ v').heap[q]?=W.heap[q]?:=fun q hq => k2 q (by omega) (fun e => by have:=hva q e; omega) (by omega)
 have hav:∀ g,v'.ownBlock=some g → tb < g:=own_above hown hb (by decide)
 have hoa:W'.ownsRow tb 50 3 va st.ans.length (ansC st.ans):=(h.oa.alloc o).kept hg (own_ne h.oa h.os (by decide))
 refine ⟨⟨h.rd.keep (k3 _ (by omega)),(k3 _ (by omega)).trans h.ptr,(k3 _ (by omega)).trans h.res,hb.set_ 5 v',hoa.kept hset (.inr fun e => by have:=own_above hoa hb (by decide) tb e; omega),?_,?_,?_,h1⟩,(hb.cell 5).trans rfl,hb.frozen 5⟩
 ·show (W'.setCell _ _).ownsRow tb _ 2 v' (st.shw ++ [a]).length (shwC (st.shw ++ [a]))
  rw [List.length_append,shwC_snoc]
  exact hown.kept hset (.inr fun e => by have:=hav tb e; omega)
 ·exact (h.cc.keep fun q hq => k2 q hq.2.1 hq.2.2.2 (by omega)).mono fun q hq => ⟨hq.1,by have:=hq.2.1; omega,hq.2.2.1,fun e => by
   rcases hat with e2 | e2
   ·exact hq.2.2.2 (e2 ▸ e)
   ·rw [e2] at e; injection e with e; have:=hq.2.1; omega⟩
 ·exact ⟨hset.os.trans (hg.os.trans h.old.os),hset.tape.trans (hg.tape.trans h.old.tape),hset.output.trans (hg.output.trans h.old.output),by have:=h.old.size; omega,fun q hq => (k3 q (by omega)).trans (h.old.block q hq)⟩
end
end Go.Proofs.YtgdngfdeeadlnaaGreatDoor
