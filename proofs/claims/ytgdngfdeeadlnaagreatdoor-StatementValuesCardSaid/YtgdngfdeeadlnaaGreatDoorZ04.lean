/- A region that draws its order, and whose last operation waits for all others: it is walked And more. -/
import Derived.Test.YtgdngfdeeadlnaaGreatDoorZ01
import Derived.Deep.RegionHeld3
import Derived.Test.YtgdngfdeeadlnaaGreatDoorZ03
import Derived.BigRegion
import Derived.Lib.ConvBytes
import Derived.OwnWalk
import Derived.Laws.OwnMore
import Derived.ArgAppend
import Derived.Lib.AppendStr
import Derived.Lib.EndianBits
import Derived.Deep.MidRow
import Derived.Deep.WholeRow
set_option linter.unusedVariables false
set_option linter.unusedSimpArgs false
namespace Go.Proofs.YtgdngfdeeadlnaaGreatDoor
section
variable {P : Program} {Q : Exit → Act → World → Prop}
def LastQ (P : Program) (ops : Array Oper) (n : Nat) (Q : Exit → Act → World → Prop) : Exit → Act → World → Prop
 | .normal,a,w => wpOp P ops Q n (Q .normal) a w
 | e,a,w => Q e a w
theorem Oper.wp_lastQ {ops : Array Oper} {n : Nat} {o : Oper} {a : Act} {w : World} {K : Act → World → Prop} (h : o.wp P a w K (LastQ P ops n Q)) : o.wp P a w K Q := by
 unfold Oper.wp at *
 generalize (execOp a.eval o).run P w=r at *
 cases r with
 | ok m w' =>
  cases m <;> simp only [Oper.upon] at h ⊢ <;>
   first
    | exact h
    | exact Calls.mono h (fun e w'' he => by cases e <;> exact he)
 | halt x w' => cases x <;> simp only [Oper.upon] at h ⊢ <;> exact h
def lastB (l : List Oper) (o : Oper) : Bool :=
 (l.zipIdx.all fun (x,i) => x.after.all fun e => !Region.binds .any e || decide (e.on < i)) &&
 (o.after.all fun e => !Region.binds .any e || decide (e.on < l.length)) &&
 ((List.range l.length).all fun j => o.after.any fun e => Region.binds .any e && e.on == j) &&
 (l.all fun x => match x.guard with | none => true | some (j,_) => decide (j < l.length))
variable {l : List Oper} {o : Oper}
theorem last_get {i : Nat} (h : i < l.length) : ((l ++ [o]).toArray)[i]? = l.toArray[i]? := by
 simp [List.getElem?_append_left h]
theorem last_get_n : ((l ++ [o]).toArray)[l.length]? = some o := by simp
structure LastOk (l : List Oper) (o : Oper) : Prop where
  lt : ∀ i x, l[i]? = some x → ∀ e ∈ x.after, Region.binds .any e = true → e.on < i
  on : ∀ e ∈ o.after, Region.binds .any e = true → e.on < l.length
  all : ∀ j, j < l.length → ∃ e ∈ o.after, Region.binds .any e = true ∧ e.on = j
  guard : ∀ x ∈ l, ∀ j b, x.guard = some (j, b) → j < l.length
theorem lastB_spec (h : lastB l o = true) : LastOk l o := by
 unfold lastB at h
 simp only [Bool.and_eq_true] at h
 obtain ⟨⟨⟨h1,h2⟩,h3⟩,h4⟩:=h
 refine ⟨fun i x hx e he hb => ?_,fun e he hb => ?_,fun j hj => ?_,fun x hx j b hg => ?_⟩
 ·rw [List.all_eq_true] at h1
  have hm:(x,i) ∈ l.zipIdx:=by
   rw [List.mem_zipIdx_iff_getElem?]; exact hx
  have:=h1 _ hm
  simp only [Array.all_eq_true'] at this
  have:=this e he
  simpa [hb] using this
 ·rw [Array.all_eq_true'] at h2
  have:=h2 e he
  simpa [hb] using this
 ·rw [List.all_eq_true] at h3
  have:=h3 j (List.mem_range.2 hj)
  rw [Array.any_eq_true'] at this
  obtain ⟨e,he,hb⟩:=this
  simp only [Bool.and_eq_true,beq_iff_eq] at hb
  exact ⟨e,he,hb.1,hb.2⟩
 ·rw [List.all_eq_true] at h4
  have:=h4 x hx
  rw [hg] at this
  simpa using this
def Fits (n : Nat) (A B : Array Bool) : Prop := (∀ j,j < n → A.getD j true = B.getD j true ∧ A.getD j false = B.getD j false) ∧ A.size = n + 1 ∧ B.size = n
theorem getD_two {A : Array Bool} {j : Nat} (h : j < A.size) : A.getD j true = A.getD j false := by simp [h]
theorem Fits.set {n i : Nat} {A B : Array Bool} (h : Fits n A B) (hi : i < n) : Fits n (A.setIfInBounds i true) (B.setIfInBounds i true) := by
 refine ⟨fun j hj => ?_,by simp [h.2.1],by simp [h.2.2]⟩
 by_cases e:i=j
 ·subst e
  simp [Array.getElem?_setIfInBounds,h.2.1,h.2.2,hj,show i < n+1 by omega]
 ·rw [getD_set_ne true e,getD_set_ne true e,getD_set_ne false e,getD_set_ne false e]; exact h.1 j hj
theorem ready_lt {A B : Array Bool} (ok : LastOk l o) (hf : Fits l.length A B) {i : Nat} (hi : i < l.length) :
  i ∈ Region.ready .any (l ++ [o]).toArray A ↔ i ∈ Region.ready .any l.toArray B:=by
 rw [mem_ready,mem_ready,(hf.1 i hi).1,last_get hi]
 refine and_congr Iff.rfl ⟨fun ⟨x,hx,h⟩ => ⟨x,hx,fun e he hb => ?_⟩,fun ⟨x,hx,h⟩ => ⟨x,hx,fun e he hb => ?_⟩⟩
 ·have hx':l[i]?=some x:=by simpa using hx
  have hlt:=ok.lt i x hx' e he hb
  rw [← (hf.1 e.on (by omega)).2]; exact h e he hb
 ·have hx':l[i]?=some x:=by simpa using hx
  have hlt:=ok.lt i x hx' e he hb
  rw [(hf.1 e.on (by omega)).2]; exact h e he hb
theorem all_listed {B : Array Bool} (ok : LastOk l o) (hB : B.size = l.length) (h : Region.ready .any l.toArray B = []) : ∀ j,j < l.length → B.getD j false = true := by
 intro j
 induction j using Nat.strongRecOn with
 | _ j ih =>
  intro hj
  cases hb:B.getD j false with
  | true => rfl
  | false =>
   exfalso
   have:j ∈ Region.ready .any l.toArray B:=by
    rw [mem_ready]
    refine ⟨by rw [getD_two (by omega)]; exact hb,l[j],by simp [hj],fun e he hbd => ?_⟩
    have:=ok.lt j l[j] (List.getElem?_eq_getElem hj) e he hbd
    exact ih e.on this (by omega)
   rw [h] at this; cases this
theorem ready_done {A : Array Bool} {n : Nat} (hn : n = l.length) (hA : A.size = n + 1) (h : ∀ j,j < n + 1 → A.getD j false = true) : Region.ready .any (l ++ [o]).toArray A = [] := by
 apply List.eq_nil_iff_forall_not_mem.2
 intro i hi
 rw [mem_ready] at hi
 obtain ⟨h0,x,hx,_⟩:=hi
 have hil:i < n+1:=by
  have:=(Array.getElem?_eq_some_iff.1 hx).1
  simp at this; omega
 have:=h i hil
 rw [← getD_two (by omega),h0] at this
 cases this
theorem wpAny_done' {A : Array Bool} {ops : Array Oper} (hr : Region.ready .any ops A = []) {a : Act} {w : World} (h : Q .normal a w) : ∀ fuel,wpAny P .any ops Q fuel A a w
 | 0 => ⟨hr,h⟩
 | _+1 => ⟨fun _ => h,by rw [hr]; simp⟩
theorem wpAny_end {A B : Array Bool} (ok : LastOk l o) (hf : Fits l.length A B) (hn : A.getD l.length true = false) (h0 : Region.ready .any l.toArray B = []) {a : Act} {w : World}
  (h:wpOp P (l ++ [o]).toArray Q l.length (Q .normal) a w) (fuel:Nat):wpAny P .any (l ++ [o]).toArray Q (fuel+1) A a w:=by
 have hall:=all_listed ok hf.2.2 h0
 have hA:∀ j,j < l.length → A.getD j false=true:=fun j hj => by rw [(hf.1 j hj).2]; exact hall j hj
 have hnr:l.length ∈ Region.ready .any (l ++ [o]).toArray A:=by
  rw [mem_ready]
  exact ⟨hn,o,last_get_n,fun e he hb => hA e.on (ok.on e he hb)⟩
 refine ⟨fun h => (by rw [h] at hnr; cases hnr),fun i hi => ?_⟩
 have hin:i=l.length:=by
  rcases Nat.lt_or_ge i l.length with hlt | hge
  ·have:=(ready_lt ok hf hlt).1 hi
   rw [h0] at this; cases this
  ·obtain ⟨_,x,hx,_⟩:=mem_ready.1 hi
   have:=(Array.getElem?_eq_some_iff.1 hx).1
   simp at this; omega
 subst hin
 refine wpOp_mono (fun a' w' hq => wpAny_done' (ready_done (n:=l.length) rfl (by simp [hf.2.1]) (fun j hj => ?_)) hq fuel) h
 by_cases e:l.length=j
 ·subst e; simp [Array.getElem?_setIfInBounds,hf.2.1]
 ·rw [getD_set_ne false e]; exact hA j (by omega)
theorem wpAny_last (ok : LastOk l o) : ∀ (fuel : Nat) (A B : Array Bool) (a : Act) (w : World),Fits l.length A B → A.getD l.length true = false →
  wpAny P .any l.toArray (LastQ P (l ++ [o]).toArray l.length Q) fuel B a w → wpAny P .any (l ++ [o]).toArray Q (fuel+1) A a w:=by
 intro fuel
 induction fuel with
 | zero =>
  intro A B a w hf hn h
  exact wpAny_end ok hf hn h.1 h.2 0
 | succ fuel ih =>
  intro A B a w hf hn h
  by_cases h0:Region.ready .any l.toArray B = []
  ·exact wpAny_end ok hf hn h0 (h.1 h0) (fuel+1)
  ·refine ⟨fun hr => ?_,fun i hi => ?_⟩
   ·exfalso
    obtain ⟨i,hi⟩:=List.exists_mem_of_ne_nil _ h0
    have hil:i < l.length:=by
     obtain ⟨_,x,hx,_⟩:=mem_ready.1 hi
     simpa using (Array.getElem?_eq_some_iff.1 hx).1
    have:=(ready_lt ok hf hil).2 hi
    rw [hr] at this; cases this
   ·rcases Nat.lt_or_ge i l.length with hlt | hge
    ·have h2:=h.2 i ((ready_lt ok hf hlt).1 hi)
     have h3:wpOp P (l ++ [o]).toArray Q i (wpAny P .any l.toArray (LastQ P (l ++ [o]).toArray l.length Q) fuel (B.setIfInBounds i true)) a w:=by
      have hlt':i < l.toArray.size:=by simpa using hlt
      unfold wpOp at h2 ⊢
      rw [last_get hlt]
      have hg:l.toArray[i]?=some l[i]:=by simp [hlt]
      rw [hg] at h2 ⊢
      dsimp only at h2 ⊢
      have hy:∀ g,Region.wanted l[i] (yielded (l ++ [o]).toArray g)=Region.wanted l[i] (yielded l.toArray g):=fun g => by
       unfold Region.wanted
       cases hgd:l[i].guard with
       | none => rfl
       | some jb =>
        obtain ⟨j,b⟩:=jb
        have:=ok.guard l[i] (List.getElem_mem hlt) j b hgd
        dsimp only
        unfold yielded
        rw [last_get this]
      rw [hy]
      split
      ·rename_i hw
       rw [if_pos hw] at h2
       rcases h2 with h2 | ⟨h2,h4⟩
       ·exact .inl (Oper.wp_lastQ h2)
       ·exact .inr ⟨h2,h4⟩
      ·rename_i hw
       rw [if_neg hw] at h2
       exact h2
     refine wpOp_mono (fun a' w' hk => ih _ _ _ _ (hf.set hlt) (by rw [getD_set_ne true (by omega)]; exact hn) hk) h3
    ·exfalso
     have hin:i=l.length:=by
      obtain ⟨_,x,hx,_⟩:=mem_ready.1 hi
      have:=(Array.getElem?_eq_some_iff.1 hx).1
      simp at this; omega
     subst hin
     obtain ⟨_,x,hx,hall⟩:=mem_ready.1 hi
     rw [last_get_n] at hx
     injection hx with hx; subst hx
     have:Region.ready .any l.toArray B = []:=by
      apply List.eq_nil_iff_forall_not_mem.2
      intro j hj
      obtain ⟨h5,y,hy,_⟩:=mem_ready.1 hj
      have hjl:j < l.length:=by simpa using (Array.getElem?_eq_some_iff.1 hy).1
      obtain ⟨e,he,hb,rfl⟩:=ok.all j hjl
      have:=hall e he hb
      rw [(hf.1 e.on hjl).2,← getD_two (by rw [hf.2.2]; exact hjl),h5] at this
      cases this
     exact h0 this
theorem wp_region_last {id : Nat} {a : Act} {w : World} (hm : P.follows .mixedOrders = true) (hB : lastB l o = true)
  (h:wpAny P .any l.toArray (LastQ P (l ++ [o]).toArray l.length Q) l.length (Array.replicate l.length false) a w.drew):(Code.region id (l ++ [o]).toArray true).wp P Q a w:=by
 refine wp_region_any hm ?_
 have e:(l ++ [o]).toArray.size=l.length+1:=by simp
 rw [e]
 refine wpAny_last (lastB_spec hB) l.length _ _ a _ ⟨fun j hj => ?_,by simp,by simp⟩ (by simp) h
 simp [hj,show j < l.length+1 by omega]
theorem wp_region_last_held {id : Nat} {a : Act} {w : World} (S : World → Prop) (hm : P.follows .mixedOrders = true) (hB : lastB l o = true) (hS : S w.drew)
  (h:S w.drew → wpAnyH P .any l.toArray (LastQ P (l ++ [o]).toArray l.length Q) S l.length (Array.replicate l.length false) a w.drew):(Code.region id (l ++ [o]).toArray true).wp P Q a w :=
 wp_region_last hm hB (wpAny_of_held _ _ _ _ (h hS))
theorem wp_region_last_lit {id : Nat} {a : Act} {w : World} (L : List Oper) (o : Oper) (S : World → Prop) (hm : P.follows .mixedOrders = true) (hL : L.dropLast ++ [o] = L) (hB : lastB L.dropLast o = true) (hS : S w.drew)
  (h:S w.drew → wpAnyH P .any L.dropLast.toArray (LastQ P L.toArray L.dropLast.length Q) S L.dropLast.length (Array.replicate L.dropLast.length false) a w.drew):(Code.region id L.toArray true).wp P Q a w:=by
 have:=wp_region_last_held (P:=P) (Q:=Q) (l:=L.dropLast) (o:=o) (id:=id) (a:=a) (w:=w) S hm hB hS (by rw [hL]; exact h)
 rwa [hL] at this
theorem wpOp_step {ops : Array Oper} {i : Nat} {o : Oper} {K : Act → World → Prop} {a : Act} {w : World} (ho : ops[i]? = some o) (hg : o.guard = none) (h : o.wp P a w K Q) : wpOp P ops Q i K a w := by
 unfold wpOp
 rw [ho]
 dsimp only
 rw [if_pos (by simp [Region.wanted,hg])]
 exact .inl h
theorem lastQ_step {ops : Array Oper} {n : Nat} {o : Oper} {a : Act} {w : World} (ho : ops[n]? = some o) (hg : o.guard = none) (h : o.wp P a w (Q .normal) Q) : LastQ P ops n Q .normal a w := wpOp_step ho hg h
end
end Go.Proofs.YtgdngfdeeadlnaaGreatDoor
namespace Go.Proofs.YtgdngfdeeadlnaaGreatDoor
open Go.RowKit Num
theorem Arr.at {w : World} {B C n : Nat} {f : Nat → Int} (h : Arr w B n f) (e : B = C) : Arr w C n f := e ▸ h
def zig (n : Int) : Nat := if n < 0 then (-2 * n - 1).toNat else (2 * n).toNat
def vk (u : Nat) : Nat → List UInt8
 | 0 => []
 | k+1 => vk u k ++ [UInt8.ofNat (u / 128 ^ k % 128+128)]
def rdN : Nat → Nat → Nat
 | 0,_ => 0
 | f+1,u => if u < 128 then 0 else rdN f (u / 128)+1
def putB (n : Int) : List UInt8 := vk (zig n) (rdN 10 (zig n)) ++ [UInt8.ofNat (zig n / 128 ^ rdN 10 (zig n))]
theorem vk_len (u : Nat) : ∀ k,(vk u k).length = k := by
 intro k
 induction k with
 | zero => rfl
 | succ k ih => simp [vk,ih]
theorem div_pow_succ (u k : Nat) : u / 128 ^ (k + 1) = u / 128 ^ k / 128 := by rw [Nat.pow_succ,Nat.div_div_eq_div_mul]
theorem rdN_of : ∀ (f k u : Nat),k ≤ f → (∀ j,j < k → 128 ≤ u / 128 ^ j) → u / 128 ^ k < 128 → rdN f u = k := by
 intro f
 induction f with
 | zero => intro k u hk _ _; show 0=k; omega
 | succ f ih =>
  intro k u hk h1 h2
  show (if u < 128 then 0 else rdN f (u / 128)+1)=k
  cases k with
  | zero => rw [if_pos (by simpa using h2)]
  | succ k =>
   have h0:=h1 0 (by omega)
   rw [Nat.pow_zero,Nat.div_one] at h0
   have e1:∀ j,j < k → 128 ≤ u / 128 / 128 ^ j:=by
    intro j hj
    have:=h1 (j+1) (by omega)
    rwa [Nat.pow_succ,Nat.mul_comm,← Nat.div_div_eq_div_mul] at this
   have e2:u / 128 / 128 ^ k < 128:=by rwa [Nat.pow_succ,Nat.mul_comm,← Nat.div_div_eq_div_mul] at h2
   rw [if_neg (by omega),ih k (u / 128) (by omega) e1 e2]
theorem zig_lt (n : Int) (h1 : -9223372036854775808 ≤ n) (h2 : n < 9223372036854775808) : zig n < 18446744073709551616 := by
 unfold zig; split <;> omega
theorem u_small (u k : Nat) (hu : u < 18446744073709551616) (h : ∀ j,j < k → 128 ≤ u / 128 ^ j) : k ≤ 9 := by
 rcases Nat.lt_or_ge 9 k with hk | hk
 ·have h9:=h 9 hk
  have e:(128:Nat) ^ 9=9223372036854775808:=by decide
  rw [e] at h9
  omega
 ·exact hk
set_option maxRecDepth 100000 in
theorem or_128 : ∀ a : Fin 256,bits .or .u8 ((a.val : Nat) : Int) 128 = ((a.val % 128 + 128 : Nat) : Int) := by decide
theorem or_more (x : Nat) : bits .or .u8 (((x : Nat) : Int) % 256) 128 = ((x % 128 + 128 : Nat) : Int) := by
 have h:=or_128 ⟨x % 256,Nat.mod_lt _ (by decide)⟩
 have e:((x:Nat):Int) % 256=((x % 256:Nat):Int):=by omega
 rw [e]
 have e2:x % 256 % 128=x % 128:=by omega
 simpa [e2] using h
theorem xor_zero (x : Int) (h0 : 0 ≤ x) (h1 : x < 18446744073709551616) : bits .xor .u64 x 0 = x := by
 obtain ⟨n,rfl⟩:=Int.eq_ofNat_of_zero_le h0
 show IntKind.u64.wrap ((BitVec.ofInt 64 (n:Int) ^^^ BitVec.ofInt 64 (0:Int)).toNat:Int)=_
 have e:(BitVec.ofInt 64 (0:Int))=0#64:=by decide
 rw [e,BitVec.xor_zero,BitVec.ofInt_natCast,BitVec.toNat_ofNat,Nat.mod_eq_of_lt (by omega)]
 show (n:Int) % 18446744073709551616=_
 omega
theorem xor_all (x : Int) (h0 : 0 ≤ x) (h1 : x < 18446744073709551616) : bits .xor .u64 x 18446744073709551615 = 18446744073709551615 - x := by
 obtain ⟨n,rfl⟩:=Int.eq_ofNat_of_zero_le h0
 show IntKind.u64.wrap ((BitVec.ofInt 64 (n:Int) ^^^ BitVec.ofInt 64 (18446744073709551615:Int)).toNat:Int)=_
 have e:(BitVec.ofInt 64 (18446744073709551615:Int))=BitVec.allOnes 64:=by decide
 rw [e,BitVec.xor_allOnes,BitVec.toNat_not,BitVec.ofInt_natCast,BitVec.toNat_ofNat,Nat.mod_eq_of_lt (by omega)]
 show ((2 ^ 64 - 1 - n:Nat):Int) % 18446744073709551616=_
 have:(2:Nat) ^ 64=18446744073709551616:=by decide
 omega
def PutPost (b : ByteArray) (n : Int) (w : World) (e : Ending) (w' : World) : Prop := e = .returned (.string (b ++ ⟨(putB n).toArray⟩)) ∧ Below w.heap.size w w'
set_option maxRecDepth 100000 in
set_option maxHeartbeats 1000000 in
theorem c_PutInt (b : ByteArray) (n : Int) (w : World) (h1 : -9223372036854775808 ≤ n) (h2 : n < 9223372036854775808) (hb : b.size < 4294967296) :
    Calls Tryz.prog 50 #[.string b,.int .i64 n] w (PutPost b n w):=by
  have hu:=zig_lt n h1 h2
  obtain ⟨i0,hi,hz0,hz1,hz2⟩:=info_parts infoB
  rcases (show 0 ≤ n ∨ n < 0 by omega) with hn | hn
  all_goals first
    | (have hn':0 ≤ n:=by assumption
       have hx:bits .xor .u64 (n*2) (n / 9223372036854775808)=((zig n:Nat):Int):=by
         rw [show n / 9223372036854775808=0 by omega,xor_zero _ (by omega) (by omega)]; unfold zig; rw [if_neg (by omega)]; omega
       have HX:=Lib.hid hx
       clear hx
       go_enter Tryz.func50,Tryz.ntmps50
       go_wp2_with fail
       rw [HX.out])
    | (have hx:bits .xor .u64 (IntKind.u64.wrap (IntKind.u64.wrap n*2)) (IntKind.u64.wrap (n / 9223372036854775808))=((zig n:Nat):Int):=by
         have e1:IntKind.u64.wrap (IntKind.u64.wrap n*2)=18446744073709551616+n*2:=by show (n % 18446744073709551616*2) % 18446744073709551616=_; omega
         have e2:IntKind.u64.wrap (n / 9223372036854775808)=18446744073709551615:=by show (n / 9223372036854775808) % 18446744073709551616=_; omega
         rw [e1,e2,xor_all _ (by omega) (by omega)]; unfold zig; rw [if_pos hn]; omega
       have HX:=Lib.hid hx
       clear hx
       go_enter Tryz.func50,Tryz.ntmps50
       go_wp2_with fail
       rw [HX.out])
  all_goals
    have ep:∀ k,k ≤ 9 → (∀ j,j < k → 128 ≤ zig n / 128 ^ j) → zig n / 128 ^ k < 128 → putB n=vk (zig n) k ++ [UInt8.ofNat (zig n / 128 ^ k)]:=by
      intro k hk h3 h4
      have:=rdN_of 10 k (zig n) (by omega) h3 h4
      unfold putB; rw [this]
    have EP:=Lib.hid ep
    clear ep HX
    generalize zig n=u at *
    go_loopw [5,6] (fun v x wr => ∃ k:Nat,x=.int .u64 ((u / 128 ^ k:Nat):Int) ∧ wr.ownsRow w.heap.size 5 1 v k (Lib.byteCells (vk u k)) ∧ Below w.heap.size w wr ∧ (∀ j,j < k → 128 ≤ u / 128 ^ j)) (fun _ x _ => (intOf x).toNat)
    case atStart => exact ⟨0,by simp,World.ownsRow_nil _ _ _ _,Below.refl _ _,fun j hj => by omega⟩
    case round =>
      obtain ⟨k,rfl,hown,hbl,hj⟩:=hrel
      have hk9:=u_small u k hu hj
      have hsz:=hbl.size
      have hvl:=vk_len u k
      have HJ:=Lib.hid hj
      have HBL:=Lib.hid hbl
      clear hj hbl
      obtain ⟨x,hx⟩:∃ x,u / 128 ^ k=x:=⟨_,rfl⟩
      have hxu:x ≤ u:=by rw [← hx]; exact Nat.div_le_self _ _
      have hnext:=div_pow_succ u k
      rw [hx] at hnext ⊢
      have HN:=Lib.hid hnext
      have HXX:=Lib.hid hx
      clear hnext hx
      have hor:=or_more x
      by_cases h128:128 ≤ x
      · go_wp2_with (at_builtin; refine wpList_append_own _ rfl _ _ 105 rfl w.heap.size 5 i0 (.int .u8 0) 1 1 Tryz.underlying105 hi hz0 hz1 hz2 rfl (by decide) _ _ _ rfl (hown.alloc _) ⟨wr.heap.size,0,none⟩ 1 1 [.int .u8 ((x % 128+128:Nat):Int)] rfl rfl (cell_one_new _ _ _) (ints_oneCell .u8 [_]) (by unfold maxLen; omega) (by omega) (by simp; omega) ?_)
        intro v' w2 hown' hgrow _
        have hlt:=hown.lt
        have hown2:w2.ownsRow w.heap.size 5 1 v' (k+1) (Lib.byteCells (vk u (k+1))):=by
          have:=hown'
          rw [show vk u (k+1)=vk u k ++ [UInt8.ofNat (u / 128 ^ k % 128+128)] from rfl,byteCells_snoc1 _ _ (by omega),HXX.out]
          exact this
        have hb2:Below w.heap.size w w2:=(HBL.out.alloc (by omega) _).grown hgrow (by simp; omega) (fun g hg => (hlt g hg).1)
        have HO2:=Lib.hid hown2
        have HB2:=Lib.hid hb2
        clear hown' hgrow hown hown2 hb2 hlt hor
        go_wp2_with fail
        go_roundw
        case measure => simp [intOf]; omega
        case rel => exact ⟨k+1,by rw [HN.out]; go_num,HO2.out,HB2.out,fun j hj => by
          rcases Nat.lt_or_ge j k with h | h
          · exact HJ.out j h
          · rw [show j=k by omega,HXX.out]; exact h128⟩
      · go_wp2_with (at_builtin; refine wpList_append_own _ rfl _ _ 105 rfl w.heap.size 5 i0 (.int .u8 0) 1 1 Tryz.underlying105 hi hz0 hz1 hz2 rfl (by decide) _ _ _ rfl (hown.alloc _) ⟨wr.heap.size,0,none⟩ 1 1 [.int .u8 ((x:Nat):Int)] rfl rfl (cell_one_new _ _ _) (ints_oneCell .u8 [_]) (by unfold maxLen; omega) (by omega) (by simp; omega) ?_)
        intro v' w2 hown' hgrow _
        have hlt:=hown.lt
        have hb2:Below w.heap.size w w2:=(HBL.out.alloc (by omega) _).grown hgrow (by simp; omega) (fun g hg => (hlt g hg).1)
        have e1:=EP.out k hk9 HJ.out (by rw [HXX.out]; omega)
        rw [HXX.out] at e1
        have hpl:(putB n).length=k+1:=by rw [e1]; simp [hvl]
        have hown2:w2.ownsRow w.heap.size 5 1 v' (k+1) (Lib.byteCells (putB n)):=by
          rw [e1,byteCells_snoc1 _ _ (by omega)]; exact hown'
        obtain ⟨g,cap,rfl⟩:∃ g cap,v'=.slice (some ⟨g,0,none⟩) (k+1) cap:=by
          rcases hown'.2 with ⟨_,h0⟩ | ⟨g,cap,cur,hv,_⟩
          · omega
          · exact ⟨g,cap,hv⟩
        have hcell:=hown2.cells (g:=g) rfl
        have hcv:=run_convert_bytes_arg (P:=Tryz.prog) w2 105 5 Tryz.underlying105 Tryz.underlying5 g 0 (k+1) cap ((putB n).map fun c => (c.toNat:Int)) (by simpa using hpl) (fun i hi => by
          have hi':i < (putB n).length:=by omega
          have:=hcell i _ (by unfold Lib.byteCells; rw [List.getElem?_map,List.getElem?_eq_getElem hi']; rfl)
          rw [Nat.zero_add]
          have ha:(⟨g,0,none⟩:Addr).add i=⟨g,i,none⟩:=by unfold Addr.add; split <;> simp_all
          rw [ha] at this
          rw [this,List.getD_eq_getElem?_getD,List.getElem?_map,List.getElem?_eq_getElem hi']; rfl) 9 Tryz.underlying9
        have hst:strOfNums ((putB n).map fun c => (c.toNat:Int))=⟨(putB n).toArray⟩:=by
          unfold strOfNums
          congr 2
          rw [List.map_map]
          conv => rhs; rw [← List.map_id (putB n)]
          congr 1
          funext c
          simp
        rw [hst] at hcv
        have hsz2:(⟨(putB n).toArray⟩:ByteArray).size ≤ 10:=by show (putB n).toArray.size ≤ 10; simp; omega
        have HB2:=Lib.hid hb2
        clear hown' hgrow hown hown2 hb2 hlt hor hcell hst e1 hpl
        go_wp2_with fail
        go_ret
        exact ⟨rfl,HB2.out⟩
theorem rdN_le : ∀ f u,rdN f u ≤ f := by
 intro f
 induction f with
 | zero => intro u; exact Nat.le_refl _
 | succ f ih => intro u; show (if u < 128 then 0 else rdN f (u / 128)+1) ≤ f+1; split; omega; have:=ih (u / 128); omega
theorem putB_len (n : Int) : (putB n).length ≤ 11 := by
 have:=rdN_le 10 (zig n)
 simp [putB,vk_len]; omega
def OwnB (w : World) (base : Nat) (v : Value) (xs : List Value) : Prop :=
 ∃ g cap,v=.slice (some ⟨g,0,none⟩) xs.length cap ∧ base ≤ g ∧ g < w.heap.size ∧ xs.length ≤ cap ∧ (∀ j,j < cap → (w.cell? ⟨g,j,none⟩).isSome=true ∧ w.frozen? ⟨g,j,none⟩=false) ∧ (∀ j u,xs[j]?=some u → w.cell? ⟨g,j,none⟩=some u)
theorem OwnB.of_block {w w' : World} {base : Nat} {v : Value} {xs : List Value} (h : OwnB w base v xs) (hb : ∀ g,g < w.heap.size → w'.heap[g]? = w.heap[g]?) (hs : w.heap.size ≤ w'.heap.size) : OwnB w' base v xs := by
 obtain ⟨g,cap,rfl,h1,h2,h3,h4,h5⟩:=h
 refine ⟨g,cap,rfl,h1,Nat.lt_of_lt_of_le h2 hs,h3,fun j hj => ?_,fun j u hu => ?_⟩
 ·rw [World.cell?_of_block (a:=⟨g,j,none⟩) (hb g h2),World.frozen?_of_block (a:=⟨g,j,none⟩) (hb g h2)]; exact h4 j hj
 ·rw [World.cell?_of_block (a:=⟨g,j,none⟩) (hb g h2)]; exact h5 j u hu
theorem OwnB.alloc {w : World} {base : Nat} {v : Value} {xs : List Value} (h : OwnB w base v xs) (o : Obj) : OwnB (w.alloc o) base v xs :=
 h.of_block (fun g hg => heap_alloc_old w o hg) (by simp)
section
variable {P : Program}
end
theorem OwnB.form {w : World} {base : Nat} {v : Value} {xs : List Value} {m : Nat} (h : OwnB w base v xs) (hm : xs.length = m) : ∃ g cap,v = .slice (some ⟨g,0,none⟩) m cap := by
 obtain ⟨g,cap,rfl,_⟩:=h
 exact ⟨g,cap,by rw [hm]⟩
theorem OwnB.below {w w' : World} {base : Nat} {v : Value} {xs : List Value} (h : OwnB w base v xs) (hb : Below w.heap.size w w') : OwnB w' base v xs :=
 h.of_block (fun g hg => hb.block g hg) hb.size
section
variable {P : Program}
end
theorem bytes_two (l m : List UInt8) : (⟨l.toArray⟩ : ByteArray) ++ ⟨m.toArray⟩ = ⟨(l ++ m).toArray⟩ := by
 apply ByteArray.ext
 simp
structure Fld where
  name : ByteArray
  kind : Int
  need : Bool
  least : Int
  most : Int
  opts : List ByteArray
def fld0 : Fld := ⟨⟨#[]⟩,0,false,0,0,[]⟩
def fldAt (L : List Fld) (k : Nat) : Fld := L.getD k fld0
def TxsAt (w : World) (S : Nat → Prop) (v : Value) (ss : List ByteArray) : Prop :=
 ∃ (A:Option Addr) (n c:Nat),v=.slice A n c ∧ n=ss.length ∧ n ≤ c ∧ (0 < n → ∃ b off,A=some ⟨b,off,none⟩ ∧ S b ∧ ∀ k,k < n → w.cell? ⟨b,off+k,none⟩=some (.string (ss.getD k ⟨#[]⟩)))
theorem TxsAt.keep {w w' : World} {S : Nat → Prop} {v : Value} {ss : List ByteArray} (h : TxsAt w S v ss) (hk : ∀ b,S b → w'.heap[b]? = w.heap[b]?) : TxsAt w' S v ss := by
 obtain ⟨A,n,c,h1,h2,h3,h4⟩:=h
 refine ⟨A,n,c,h1,h2,h3,fun hn => ?_⟩
 obtain ⟨b,off,hA,hS,hc⟩:=h4 hn
 exact ⟨b,off,hA,hS,fun k hk' => (World.cell?_of_block (hk b hS)).trans (hc k hk')⟩
theorem TxsAt.mono {w : World} {S T : Nat → Prop} {v : Value} {ss : List ByteArray} (h : TxsAt w S v ss) (hk : ∀ b,S b → T b) : TxsAt w T v ss := by
 obtain ⟨A,n,c,h1,h2,h3,h4⟩:=h
 refine ⟨A,n,c,h1,h2,h3,fun hn => ?_⟩
 obtain ⟨b,off,hA,hS,hc⟩:=h4 hn
 exact ⟨b,off,hA,hk b hS,hc⟩
theorem TxsAt.of_own {w : World} {B : Nat} {v : Value} {n : Nat} {ss : List ByteArray} (h : w.ownsRow B 9 1 v n (ss.map Value.string)) : TxsAt w (fun b => B ≤ b ∧ b < w.heap.size) v ss := by
 have hl:n=ss.length:=by have:=h.1; simpa using this.symm
 rcases id h.2 with ⟨rfl,rfl⟩ | ⟨g,cap,cur,rfl,hB,hh,hnc,_⟩
 ·exact ⟨none,0,0,rfl,hl,Nat.le_refl _,fun hn => absurd hn (Nat.lt_irrefl 0)⟩
 ·refine ⟨_,n,cap,rfl,hl,hnc,fun hn => ⟨g,0,rfl,⟨hB,(Array.getElem?_eq_some_iff.1 hh).1⟩,fun k hk => ?_⟩⟩
  rw [Nat.zero_add,h.cellAt k (by omega),List.getElem?_map,List.getElem?_eq_getElem (by omega),List.getD_eq_getElem?_getD,List.getElem?_eq_getElem (by omega)]
  rfl
def FldAt (w : World) (S : Nat → Prop) (b off : Nat) (f : Fld) : Prop :=
 w.cell? ⟨b,off,none⟩=some (.string f.name) ∧ w.cell? ⟨b,off+1,none⟩=some (.int .i64 f.kind) ∧ w.cell? ⟨b,off+2,none⟩=some (.bool f.need) ∧ w.cell? ⟨b,off+3,none⟩=some (.int .i64 f.least) ∧ w.cell? ⟨b,off+4,none⟩=some (.int .i64 f.most) ∧
  ∃ u,w.cell? ⟨b,off+5,none⟩=some u ∧ TxsAt w S u f.opts
def FldsAt (w : World) (S : Nat → Prop) (v : Value) (L : List Fld) : Prop :=
 ∃ (A:Option Addr) (n c:Nat),v=.slice A n c ∧ n=L.length ∧ n ≤ c ∧ (0 < n → ∃ b off,A=some ⟨b,off,none⟩ ∧ S b ∧ ∀ k,k < n → FldAt w S b (off+k*6) (fldAt L k))
theorem FldAt.keep {w w' : World} {S : Nat → Prop} {b off : Nat} {f : Fld} (h : FldAt w S b off f) (hb : w'.heap[b]? = w.heap[b]?) (hk : ∀ b,S b → w'.heap[b]? = w.heap[b]?) : FldAt w' S b off f := by
 obtain ⟨h0,h1,h2,h3,h4,u,h5,h6⟩:=h
 have e:∀ o,w'.cell? ⟨b,o,none⟩=w.cell? ⟨b,o,none⟩:=fun o => World.cell?_of_block hb
 exact ⟨(e _).trans h0,(e _).trans h1,(e _).trans h2,(e _).trans h3,(e _).trans h4,u,(e _).trans h5,h6.keep hk⟩
theorem FldAt.mono {w : World} {S T : Nat → Prop} {b off : Nat} {f : Fld} (h : FldAt w S b off f) (hk : ∀ b,S b → T b) : FldAt w T b off f := by
 obtain ⟨h0,h1,h2,h3,h4,u,h5,h6⟩:=h
 exact ⟨h0,h1,h2,h3,h4,u,h5,h6.mono hk⟩
theorem FldsAt.keep {w w' : World} {S : Nat → Prop} {v : Value} {L : List Fld} (h : FldsAt w S v L) (hk : ∀ b,S b → w'.heap[b]? = w.heap[b]?) : FldsAt w' S v L := by
 obtain ⟨A,n,c,h1,h2,h3,h4⟩:=h
 refine ⟨A,n,c,h1,h2,h3,fun hn => ?_⟩
 obtain ⟨b,off,hA,hS,hc⟩:=h4 hn
 exact ⟨b,off,hA,hS,fun k hk' => (hc k hk').keep (hk b hS) hk⟩
theorem FldsAt.mono {w : World} {S T : Nat → Prop} {v : Value} {L : List Fld} (h : FldsAt w S v L) (hk : ∀ b,S b → T b) : FldsAt w T v L := by
 obtain ⟨A,n,c,h1,h2,h3,h4⟩:=h
 refine ⟨A,n,c,h1,h2,h3,fun hn => ?_⟩
 obtain ⟨b,off,hA,hS,hc⟩:=h4 hn
 exact ⟨b,off,hA,hk b hS,fun k hk' => (hc k hk').mono hk⟩
def FldOk (f : Fld) : Prop := f.name.size ≤ 4294967296 ∧ f.opts.length ≤ 1000000 ∧ -9223372036854775808 ≤ f.kind ∧ f.kind < 9223372036854775808 ∧ -9223372036854775808 ≤ f.least ∧ f.least < 9223372036854775808 ∧ -9223372036854775808 ≤ f.most ∧ f.most < 9223372036854775808 ∧ ∀ s ∈ f.opts,s.size ≤ 9223372036854775807
def optGood (L : List ByteArray) (k : Nat) : Prop := ∀ i,i < k → 1 ≤ (L.getD i ⟨#[]⟩).size ∧ (L.getD i ⟨#[]⟩).size ≤ 256 ∧ ∀ j,j < i → L.getD j ⟨#[]⟩ ≠ L.getD i ⟨#[]⟩
noncomputable instance (L : List ByteArray) (k : Nat) : Decidable (optGood L k) := Classical.propDecidable _
noncomputable def optsB (L : List ByteArray) : Bool := decide (optGood L L.length ∧ 1 ≤ L.length ∧ L.length ≤ 16)
noncomputable def fldB (f : Fld) : Bool := nameB (blOf f.name) && decide (f.least ≤ f.most) && (decide (f.kind = 4) || decide (f.opts.length = 0)) &&
 (if f.kind=1 then decide (0 ≤ f.least) && decide (f.most ≤ 16384) else if f.kind=2 then true else if f.kind=3 then decide (0 ≤ f.least) && decide (f.most ≤ 3652058) else if f.kind=4 then decide (f.least=0) && decide (f.most=0) && optsB f.opts else false)
end Go.Proofs.YtgdngfdeeadlnaaGreatDoor
