/- Words for the laws of chapter 18: a form and statements in blocks that the dice do not cha And more. -/
import Derived.Test.YtgdngfdeeadlnaaGreatDoorY18
import Derived.Test.YtgdngfdeeadlnaaGreatDoorY32
import Derived.Test.YtgdngfdeeadlnaaGreatDoorY34
import Derived.Test.YtgdngfdeeadlnaaGreatDoorY09
import Derived.Test.YtgdngfdeeadlnaaGreatDoorY15
import Derived.Test.YtgdngfdeeadlnaaGreatDoorY13
import Derived.Test.YtgdngfdeeadlnaaGreatDoorY05
set_option linter.unusedVariables false
set_option linter.unusedSimpArgs false
namespace Go.Proofs.YtgdngfdeeadlnaaGreatDoor
open Go.RowKit Num
theorem ckl_F (A : Option Addr) (n c : Nat) (w : World) (h : n ≤ 9223372036854775807) (h5 : ¬ n ≤ 500) : Calls Tryz.prog 6 #[.slice A n c] w fun e w' => e = .returned (.bool false) ∧ w = w' := by
 have:=k_Light A n c w h
 rwa [decide_eq_false (by omega)] at this
theorem ckl_T (A : Option Addr) (n c : Nat) (w : World) (h : n ≤ 9223372036854775807) (h5 : n ≤ 500) : Calls Tryz.prog 6 #[.slice A n c] w fun e w' => e = .returned (.bool true) ∧ w = w' := by
 have:=k_Light A n c w h
 rwa [decide_eq_true (by omega)] at this
theorem ArgL.below2 {w w' : World} {v : Value} (h : ArgL w v) (hb : Below w.heap.size w w') : ArgL w' v := by
 obtain ⟨A,n,c,L,rfl,h1,h2⟩:=h
 refine ⟨A,n,c,L,rfl,h1,fun hn => ?_⟩
 obtain ⟨b0,off,hA,hlt,hc⟩:=h2 hn
 exact ⟨b0,off,hA,Nat.lt_of_lt_of_le hlt hb.size,fun i hi => (hb.cell (p:=⟨b0,off+i,none⟩) hlt).trans (hc i hi)⟩
open Classical in
noncomputable def eqD (x y : Stm) : Bool := decide (x = y)
theorem eqD_self (x : Stm) : eqD x x = true := by unfold eqD; simp
def SamD (b : Bool) (w : World) (e : Ending) (w' : World) : Prop := e = .returned (.bool b) ∧ Below w.heap.size w w'
open Classical in
theorem SameB.d {x y : Stm} {w w' : World} {e : Ending} (h : SameB (x = y) w e w') : SamD (eqD x y) w e w' := by
 obtain ⟨b,he,hb,hB⟩:=h
 refine ⟨?_,hB⟩
 have:b=eqD x y:=by
  unfold eqD
  rw [Bool.eq_iff_iff,decide_eq_true_iff]
  exact hb
 rw [he,this]
structure LsS (W : World) (db q : Nat) (va vc vs : Value) (x : Stm) : Prop where
  blk : Blk W q 29 #[.string x.resp, .int .i64 x.dep, .int .i64 x.day, va, vc, vs]
  ne : q ≠ db
  at_ : StmAt W (fun b => b ≠ db ∧ b < W.heap.size) va vc vs x
structure LwF (W : World) (db q : Nat) (t : ByteArray) (v : Value) (L : List Fld) : Prop where
  blk : Blk W q 37 #[.string t, v]
  ne : q ≠ db
  at_ : FldsAt W (fun b => b ≠ db ∧ b < W.heap.size) v L
section
variable {W W' : World} {db q : Nat} {va vc vs v : Value} {x : Stm} {t : ByteArray} {L : List Fld}
theorem LsS.step (h : LsS W db q va vc vs x) (hg : W.grownBy W' (some db)) : LsS W' db q va vc vs x :=
 ⟨(hg.block q h.blk.lt (fun e => h.ne (Option.some.inj e))).trans h.blk,h.ne,(h.at_.keep fun b hb => hg.block b hb.2 (fun e => hb.1 (Option.some.inj e))).mono fun b hb => ⟨hb.1,Nat.lt_of_lt_of_le hb.2 hg.size⟩⟩
theorem LsS.alloc (h : LsS W db q va vc vs x) (o : Obj) : LsS (W.alloc o) db q va vc vs x := h.step (World.grownBy_alloc W o (some db))
theorem LsS.new (hd : db < W.heap.size) (h : StmAt W (fun b => b ≠ db ∧ b < W.heap.size) va vc vs x) : LsS (W.alloc (.cells #[.string x.resp,.int .i64 x.dep,.int .i64 x.day,va,vc,vs] 29)) db W.heap.size va vc vs x :=
 ⟨Blk.new W _ _,by omega,(h.keep fun b hb => Below.heap_alloc W _ b hb.2).mono fun b hb => ⟨hb.1,by rw [World.size_alloc]; omega⟩⟩
theorem LwF.step (h : LwF W db q t v L) (hg : W.grownBy W' (some db)) : LwF W' db q t v L :=
 ⟨(hg.block q h.blk.lt (fun e => h.ne (Option.some.inj e))).trans h.blk,h.ne,(h.at_.keep fun b hb => hg.block b hb.2 (fun e => hb.1 (Option.some.inj e))).mono fun b hb => ⟨hb.1,Nat.lt_of_lt_of_le hb.2 hg.size⟩⟩
theorem LwF.alloc (h : LwF W db q t v L) (o : Obj) : LwF (W.alloc o) db q t v L := h.step (World.grownBy_alloc W o (some db))
theorem LwF.new (hd : db < W.heap.size) (h : FldsAt W (fun b => b ≠ db ∧ b < W.heap.size) v L) : LwF (W.alloc (.cells #[.string t,v] 37)) db W.heap.size t v L :=
 ⟨Blk.new W _ _,by omega,(h.keep fun b hb => Below.heap_alloc W _ b hb.2).mono fun b hb => ⟨hb.1,by rw [World.size_alloc]; omega⟩⟩
end
theorem fld_all {P : Fld → Prop} {L : List Fld} (h : ∀ k,k < L.length → P (fldAt L k)) : ∀ f ∈ L,P f := fun f hf => by
 obtain ⟨j,hj,e⟩:=List.getElem_of_mem hf
 have h1:=h j hj
 have h2:fldAt L j=f:=by unfold fldAt; rw [List.getD_eq_getElem?_getD,List.getElem?_eq_getElem hj]; exact e
 rwa [h2] at h1
def respB : ByteArray := ⟨#[114,101,115,112,111,110,100,101,110,116]⟩
def deptB : ByteArray := ⟨#[100,101,112,97,114,116,109,101,110,116]⟩
def dayB : ByteArray := ⟨#[100,97,121]⟩
def seesS (L : List Shw) (r f : ByteArray) : Bool := L.any fun x => (x.field.toList == f.toList) && (x.role.toList == r.toList)
theorem sees_iff (L : List Shw) (r f : ByteArray) : seesS L r f = true ↔ (⟨f,r⟩ : Shw) ∈ L := by
 unfold seesS
 rw [List.any_eq_true]
 constructor
 ·rintro ⟨x,hx,h⟩
  rw [Bool.and_eq_true] at h
  rw [bytes_of h.1,bytes_of h.2]
  exact hx
 ·intro h
  exact ⟨_,h,by simp⟩
theorem sees_bool {L : List Shw} {r f : ByteArray} {b : Bool} (h : b = true ↔ (⟨f,r⟩ : Shw) ∈ L) : b = seesS L r f := by
 rw [← sees_iff] at h
 cases b <;> cases hs:seesS L r f <;> simp_all
def visA (L : List Shw) (r : ByteArray) (A : List Ans) : List Ans := A.filter fun a => seesS L r a.field
def visS (s : Stm) (r : ByteArray) : Stm := ⟨if seesS s.shw r respB then s.resp else ⟨#[]⟩,if seesS s.shw r deptB then s.dep else 0,if seesS s.shw r dayB then s.day else 0,visA s.shw r s.ans,[],[]⟩
theorem visA_take {L : List Shw} {r : ByteArray} {A : List Ans} {k : Nat} (hk : k < A.length) : visA L r (A.take (k + 1)) = visA L r (A.take k) ++ (if seesS L r (ansAt A k).field then [ansAt A k] else []) := by
 have e:ansAt A k=A[k]:=by unfold ansAt; rw [List.getD_eq_getElem?_getD,List.getElem?_eq_getElem hk]; rfl
 unfold visA
 rw [List.take_succ_eq_append_getElem hk,List.filter_append,e,List.filter_cons,List.filter_nil]
theorem visA_len (L : List Shw) (r : ByteArray) (A : List Ans) : (visA L r A).length ≤ A.length := List.length_filter_le _ _
theorem visA_mem {L : List Shw} {r : ByteArray} {A : List Ans} {x : Ans} (h : x ∈ visA L r A) : x ∈ A ∧ seesS L r x.field = true := by
 unfold visA at h
 exact List.mem_filter.1 h
theorem visS_ok {s : Stm} (h : StmOk s) (r : ByteArray) : StmOk (visS s r) := by
 refine ⟨?_,?_,?_,Nat.le_trans (visA_len _ _ _) h.an,fun k hk => ?_,Nat.zero_le _,fun k hk => absurd hk (Nat.not_lt_zero _),Nat.zero_le _,fun t ht => by cases ht⟩
 ·show (if _ then s.resp else _:ByteArray).size ≤ _
  split
  ·exact h.resp
  ·exact Nat.zero_le _
 ·show In64' (if _ then s.dep else 0)
  split
  ·exact h.dep
  ·exact ⟨by decide,by decide⟩
 ·show In64' (if _ then s.day else 0)
  split
  ·exact h.day
  ·exact ⟨by decide,by decide⟩
 ·have hm:ansAt (visS s r).ans k ∈ s.ans:=(visA_mem (ansAt_mem hk)).1
  obtain ⟨j,hj,e⟩:=List.getElem_of_mem hm
  have:=h.ans j hj
  have e2:ansAt s.ans j=s.ans[j]:=by unfold ansAt; rw [List.getD_eq_getElem?_getD,List.getElem?_eq_getElem hj]; rfl
  rw [e2,e] at this
  exact this
end Go.Proofs.YtgdngfdeeadlnaaGreatDoor
