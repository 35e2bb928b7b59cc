/- Words for memory: statements. Plain: their bytes. And more. -/
import Derived.Test.YtgdngfdeeadlnaaGreatDoorY03
import Derived.Test.YtgdngfdeeadlnaaGreatDoorY05
import Derived.Test.YtgdngfdeeadlnaaGreatDoorY08
import Derived.Test.YtgdngfdeeadlnaaGreatDoorY01
import Derived.ProofKit
import Derived.SizedLaws
import Derived.Deep.Slices
import Derived.ChangeArms
import Derived.ChangeSame
import Derived.OpenShut
set_option linter.unusedVariables false
set_option linter.unusedSimpArgs false
namespace Go.Proofs.YtgdngfdeeadlnaaGreatDoor
open Go.RowKit Num
structure Ans where
  field : ByteArray
  text : ByteArray
  num : Int
structure Shw where
  field : ByteArray
  role : ByteArray
def ansAt (L : List Ans) (k : Nat) : Ans := L.getD k ⟨⟨#[]⟩,⟨#[]⟩,0⟩
def shwAt (L : List Shw) (k : Nat) : Shw := L.getD k ⟨⟨#[]⟩,⟨#[]⟩⟩
def AnssAt (w : World) (S : Nat → Prop) (v : Value) (L : List Ans) : Prop :=
 ∃ (A:Option Addr) (n c:Nat),v=.slice A n c ∧ n=L.length ∧ n ≤ c ∧ (0 < n → ∃ b off,A=some ⟨b,off,none⟩ ∧ S b ∧ ∀ k,k < n → w.cell? ⟨b,off+k*3,none⟩=some (.string (ansAt L k).field) ∧ w.cell? ⟨b,off+k*3+1,none⟩=some (.string (ansAt L k).text) ∧ w.cell? ⟨b,off+k*3+2,none⟩=some (.int .i64 (ansAt L k).num))
def ShwsAt (w : World) (S : Nat → Prop) (v : Value) (L : List Shw) : Prop :=
 ∃ (A:Option Addr) (n c:Nat),v=.slice A n c ∧ n=L.length ∧ n ≤ c ∧ (0 < n → ∃ b off,A=some ⟨b,off,none⟩ ∧ S b ∧ ∀ k,k < n → w.cell? ⟨b,off+k*2,none⟩=some (.string (shwAt L k).field) ∧ w.cell? ⟨b,off+k*2+1,none⟩=some (.string (shwAt L k).role))
theorem AnssAt.keep {w w' : World} {S : Nat → Prop} {v : Value} {L : List Ans} (h : AnssAt w S v L) (hk : ∀ b,S b → w'.heap[b]? = w.heap[b]?) : AnssAt w' S v L := by
 obtain ⟨A,n,c,h1,h2,h3,h4⟩:=h
 refine ⟨A,n,c,h1,h2,h3,fun hn => ?_⟩
 obtain ⟨b,off,hA,hS,hc⟩:=h4 hn
 exact ⟨b,off,hA,hS,fun k hk' => ⟨(World.cell?_of_block (hk b hS)).trans (hc k hk').1,(World.cell?_of_block (hk b hS)).trans (hc k hk').2.1,(World.cell?_of_block (hk b hS)).trans (hc k hk').2.2⟩⟩
theorem AnssAt.mono {w : World} {S T : Nat → Prop} {v : Value} {L : List Ans} (h : AnssAt w S v L) (hk : ∀ b,S b → T b) : AnssAt w T v L := by
 obtain ⟨A,n,c,h1,h2,h3,h4⟩:=h
 refine ⟨A,n,c,h1,h2,h3,fun hn => ?_⟩
 obtain ⟨b,off,hA,hS,hc⟩:=h4 hn
 exact ⟨b,off,hA,hk b hS,hc⟩
theorem ShwsAt.keep {w w' : World} {S : Nat → Prop} {v : Value} {L : List Shw} (h : ShwsAt w S v L) (hk : ∀ b,S b → w'.heap[b]? = w.heap[b]?) : ShwsAt w' S v L := by
 obtain ⟨A,n,c,h1,h2,h3,h4⟩:=h
 refine ⟨A,n,c,h1,h2,h3,fun hn => ?_⟩
 obtain ⟨b,off,hA,hS,hc⟩:=h4 hn
 exact ⟨b,off,hA,hS,fun k hk' => ⟨(World.cell?_of_block (hk b hS)).trans (hc k hk').1,(World.cell?_of_block (hk b hS)).trans (hc k hk').2⟩⟩
theorem ShwsAt.mono {w : World} {S T : Nat → Prop} {v : Value} {L : List Shw} (h : ShwsAt w S v L) (hk : ∀ b,S b → T b) : ShwsAt w T v L := by
 obtain ⟨A,n,c,h1,h2,h3,h4⟩:=h
 refine ⟨A,n,c,h1,h2,h3,fun hn => ?_⟩
 obtain ⟨b,off,hA,hS,hc⟩:=h4 hn
 exact ⟨b,off,hA,hk b hS,hc⟩
structure Stm where
  resp : ByteArray
  dep : Int
  day : Int
  ans : List Ans
  cond : List Trm
  shw : List Shw
structure StmAt (w : World) (S : Nat → Prop) (va vc vs : Value) (s : Stm) : Prop where
  aa : AnssAt w S va s.ans
  cc : TermsAt w S vc s.cond
  ss : ShwsAt w S vs s.shw
theorem StmAt.keep {w w' : World} {S : Nat → Prop} {va vc vs : Value} {s : Stm} (h : StmAt w S va vc vs s) (hk : ∀ b,S b → w'.heap[b]? = w.heap[b]?) : StmAt w' S va vc vs s := ⟨h.aa.keep hk,h.cc.keep hk,h.ss.keep hk⟩
theorem StmAt.mono {w : World} {S T : Nat → Prop} {va vc vs : Value} {s : Stm} (h : StmAt w S va vc vs s) (hk : ∀ b,S b → T b) : StmAt w T va vc vs s := ⟨h.aa.mono hk,h.cc.mono hk,h.ss.mono hk⟩
abbrev In64' (n : Int) : Prop := -9223372036854775808 ≤ n ∧ n < 9223372036854775808
structure StmOk (s : Stm) : Prop where
  resp : s.resp.size ≤ 1000000
  dep : In64' s.dep
  day : In64' s.day
  an : s.ans.length ≤ 1000000
  ans : ∀ k, k < s.ans.length → (ansAt s.ans k).field.size ≤ 1000000 ∧ (ansAt s.ans k).text.size ≤ 1000000 ∧ In64' (ansAt s.ans k).num
  sn : s.shw.length ≤ 1000000
  shw : ∀ k, k < s.shw.length → (shwAt s.shw k).field.size ≤ 1000000 ∧ (shwAt s.shw k).role.size ≤ 1000000
  cn : s.cond.length ≤ 1000000
  cond : ∀ t ∈ s.cond, TrmOk t
def ansL (a : Ans) : List UInt8 := textL a.field ++ textL a.text ++ putB a.num
def shwL (a : Shw) : List UInt8 := textL a.field ++ textL a.role
def headL (s : Stm) : List UInt8 := textL s.resp ++ putB s.dep ++ putB s.day ++ putB (s.ans.length : Int)
def stmA (s : Stm) (k : Nat) : List UInt8 := headL s ++ (s.ans.take k).flatMap ansL
def stmB (s : Stm) (txt : ByteArray) : List UInt8 := stmA s s.ans.length ++ textL txt ++ putB (s.shw.length : Int)
def stmC (s : Stm) (txt : ByteArray) (k : Nat) : List UInt8 := stmB s txt ++ (s.shw.take k).flatMap shwL
def bO (l : List UInt8) : ByteArray := ⟨l.toArray⟩
theorem bO_size (l : List UInt8) : (bO l).size = l.length := by show l.toArray.size = _; rw [List.size_toArray]
theorem bO_app (l m : List UInt8) : bO l ++ ⟨m.toArray⟩ = bO (l ++ m) := bytes_two l m
theorem stmA_succ {s : Stm} {k : Nat} (h : k < s.ans.length) : stmA s (k + 1) = stmA s k ++ textL (ansAt s.ans k).field ++ textL (ansAt s.ans k).text ++ putB (ansAt s.ans k).num := by
 unfold stmA
 have e:ansAt s.ans k=s.ans[k]:=by unfold ansAt; rw [List.getD_eq_getElem?_getD,List.getElem?_eq_getElem h]; rfl
 rw [List.take_succ_eq_append_getElem h,List.flatMap_append,List.flatMap_cons,List.flatMap_nil,List.append_nil,e]
 simp only [ansL,List.append_assoc]
theorem stmC_succ {s : Stm} {txt : ByteArray} {k : Nat} (h : k < s.shw.length) : stmC s txt (k + 1) = stmC s txt k ++ textL (shwAt s.shw k).field ++ textL (shwAt s.shw k).role := by
 unfold stmC
 have e:shwAt s.shw k=s.shw[k]:=by unfold shwAt; rw [List.getD_eq_getElem?_getD,List.getElem?_eq_getElem h]; rfl
 rw [List.take_succ_eq_append_getElem h,List.flatMap_append,List.flatMap_cons,List.flatMap_nil,List.append_nil,e]
 simp only [shwL,List.append_assoc]
theorem headL_len {s : Stm} (h : StmOk s) : (headL s).length ≤ 1000100 := by
 unfold headL
 have:=textL_len s.resp
 have:=putB_len s.dep
 have:=putB_len s.day
 have:=putB_len (s.ans.length:Int)
 have:=h.resp
 simp only [List.length_append]
 omega
theorem stmA_len {s : Stm} (h : StmOk s) : ∀ k,k ≤ s.ans.length → (stmA s k).length ≤ 1000100 + k * 2000100 := by
 intro k
 induction k with
 | zero => intro _; have:=headL_len h; show (headL s ++ []).length ≤ _; simpa using this
 | succ k ih =>
  intro hk
  rw [stmA_succ (by omega)]
  have h1:=ih (by omega)
  obtain ⟨a,b,_⟩:=h.ans k (by omega)
  have:=textL_len (ansAt s.ans k).field
  have:=textL_len (ansAt s.ans k).text
  have:=putB_len (ansAt s.ans k).num
  simp only [List.length_append]
  rw [Nat.succ_mul]
  omega
theorem stmB_len {s : Stm} (h : StmOk s) {txt : ByteArray} (ht : txt.size ≤ 10000) (hn : s.ans.length ≤ 256) : (stmB s txt).length ≤ 600000000 := by
 unfold stmB
 have h1:=stmA_len h s.ans.length (Nat.le_refl _)
 have h2:=textL_len txt
 have h3:=putB_len (s.shw.length:Int)
 have h4:s.ans.length*2000100 ≤ 256*2000100:=Nat.mul_le_mul_right _ hn
 simp only [List.length_append]
 omega
theorem stmC_len {s : Stm} (h : StmOk s) {txt : ByteArray} (ht : txt.size ≤ 10000) (hn : s.ans.length ≤ 256) : ∀ k,k ≤ s.shw.length → (stmC s txt k).length ≤ 600000000 + k * 2000100 := by
 intro k
 induction k with
 | zero => intro _; have:=stmB_len h ht hn; show (stmB s txt ++ []).length ≤ _; simpa using this
 | succ k ih =>
  intro hk
  rw [stmC_succ (by omega)]
  have h1:=ih (by omega)
  obtain ⟨a,b⟩:=h.shw k (by omega)
  have:=textL_len (shwAt s.shw k).field
  have:=textL_len (shwAt s.shw k).role
  simp only [List.length_append]
  rw [Nat.succ_mul]
  omega
def StrQ (x : ByteArray) (W : World) (e : Ending) (w' : World) : Prop := e = .returned (.string x) ∧ Below W.heap.size W w'
section
variable (l : List UInt8) (hl : l.length < 2000000000)
include hl
theorem cq_text (s : ByteArray) (hs : s.size ≤ 1000000) (W : World) : Calls Tryz.prog 51 #[.string (bO l),.string s] W (StrQ (bO (l ++ textL s)) W) := by
 have:=c_PutText (bO l) s W (by rw [bO_size]; omega) (by omega)
 unfold TxtPost at this
 rw [bO_app] at this
 exact this
theorem cq_int (n : Int) (hn : In64' n) (W : World) : Calls Tryz.prog 50 #[.string (bO l),.int .i64 n] W (StrQ (bO (l ++ putB n)) W) := by
 have:=c_PutInt (bO l) n W hn.1 hn.2 (by rw [bO_size]; omega)
 unfold PutPost at this
 rw [bO_app] at this
 exact this
end
def prnS (L : List Trm) : ByteArray := match rootF L with | none => ⟨#[]⟩ | some T => bsOf (txT 6 T)
theorem prnS_size (L : List Trm) : (prnS L).size ≤ 10000 := by
 unfold prnS
 cases h:rootF L with
 | none => exact Nat.zero_le _
 | some T =>
  have:=root_txt h
  show (txT 6 T).toArray.size ≤ _
  rw [List.size_toArray]; exact this
def stmW (s : Stm) : List UInt8 := stmC s (prnS s.cond) s.shw.length
def bytS (s : Stm) : ByteArray := if (rootF s.cond).isSome then (if max s.ans.length s.shw.length ≤ 256 then (if (stmW s).length ≤ 16384 then bO (stmW s) else ⟨#[]⟩) else ⟨#[]⟩) else ⟨#[]⟩
def bytZ (s : Stm) : Int := if (rootF s.cond).isSome then (if max s.ans.length s.shw.length ≤ 256 then (if (stmW s).length ≤ 16384 then 0 else 3) else 3) else 14
def BytE (s : Stm) (w : World) (e : Ending) (w' : World) : Prop := e = .returned (.tuple #[.string (bytS s),.int .i64 (bytZ s)]) ∧ Below w.heap.size w w'
end Go.Proofs.YtgdngfdeeadlnaaGreatDoor
namespace Go.Proofs.YtgdngfdeeadlnaaGreatDoor
open Go.ChangeShapes Go.WideShapes Go.ChangeAt Go.RowKit
theorem ints_fact {H : Type} {enc : TypeId × Value → H} {W : World} {t e : TypeId} {a : Option Addr} {n c : Nat} {d : DataW H} {p : List MemPlace} (ht : Tryz.prog.underlying t = some (.slice e)) (he : Tryz.prog.underlying e = some (.int .i64)) (hc : Tryz.prog.cellsOf e = 1)
  (h:DataW.Trod enc Tryz.prog W 0 (fun _ => true) true t (.slice a n c) d p) (hlt:∀ x ∈ p,x.block < W.heap.size) :
  n ≤ 9223372036854775807 ∧ (n ≤ 500 → ArgL W (.slice a n c)):=by
 obtain ⟨fu,hf⟩:=h
 rcases open_ints ht he hc hf with ⟨hcs,hx⟩ | ⟨b,len',cap',zs,hcs,_,hl,hm,hz,hx,hcell,hwz⟩
 ·simp [Value.cells] at hcs
  obtain ⟨rfl,rfl,rfl⟩:=hcs
  exact ⟨by omega,fun _ => ⟨none,0,0,fun _ => 0,rfl,by omega,fun h => absurd h (by omega)⟩⟩
 ·simp [Value.cells] at hcs
  obtain ⟨rfl,rfl,rfl⟩:=hcs
  simp only [Prod.mk.injEq] at hx
  obtain ⟨rfl,rfl⟩:=hx
  simp only [if_true] at hz
  unfold maxLen at hm
  refine ⟨by omega,fun h5 => ⟨some b,n,c,fun i => zs.getD i 0,rfl,h5,fun hn => ?_⟩⟩
  obtain ⟨b0,off,spot⟩:=b
  have hspot:spot=none:=by simpa [Addr.add] using World.cell?_spot (hcell 0 (by omega))
  subst hspot
  refine ⟨b0,off,rfl,hlt (.cell b0 off) (MemPlace.mem_row.2 ⟨0,by omega,by simp⟩),fun i hi => ?_⟩
  rw [← add_plain]; exact hcell i (by omega)
end Go.Proofs.YtgdngfdeeadlnaaGreatDoor
namespace Go.Proofs.YtgdngfdeeadlnaaGreatDoor
open Go.ChangeShapes Go.WideShapes Go.RowKit
def TrmWide (t : Trm) : Prop := t.field.size ≤ maxLen ∧ t.text.size ≤ maxLen ∧ t.args.length ≤ maxLen ∧ (Lit.int .i64 t.kind).wf = true ∧ (Lit.int .i64 t.num).wf = true ∧ (Lit.int .i64 t.yrs).wf = true ∧ ∀ a ∈ t.args,(Lit.int .i64 a).wf = true
section
variable {H : Type} {enc : TypeId × Value → H} {P : Program} {w : World} {base : Nat} {spare : Nat → Bool} {held : Bool}
theorem ints_at_fact {t e : TypeId} {fuel : Nat} {v : Value} {x : DataW H × List MemPlace} (ht : P.underlying t = some (.slice e)) (he : P.underlying e = some (.int .i64)) (hc : P.cellsOf e = 1)
  (h:DataW.trod enc P w 0 (fun _ => true) held fuel t [v]=some x) (hlt:∀ p ∈ x.2,p.block < w.heap.size) :
  ∃ xs:List Int,IntsAt w (· < w.heap.size) v xs ∧ xs.length ≤ maxLen ∧ ∀ a ∈ xs,(Lit.int .i64 a).wf=true:=by
 rcases open_ints ht he hc h with ⟨hcs,hx⟩ | ⟨a,len,cap,zs,hcs,_,hl,hm,hz,hx,hcell,hwz⟩
 ·simp at hcs
  exact ⟨[],⟨none,0,0,hcs,rfl,Nat.le_refl _,fun h => absurd h (by omega)⟩,by simp,fun _ h => by cases h⟩
 ·simp at hcs
  simp only [if_true] at hz
  subst hx
  have hlen:(zs.take len).length=len:=by rw [List.length_take]; omega
  refine ⟨zs.take len,⟨some a,len,cap,hcs,hlen.symm,hl,fun hn => ?_⟩,by omega,fun a ha => hwz a (List.mem_of_mem_take ha)⟩
  obtain ⟨b0,off,spot⟩:=a
  have hspot:spot=none:=by simpa [Addr.add] using World.cell?_spot (hcell 0 (by omega))
  subst hspot
  refine ⟨b0,off,rfl,hlt (.cell b0 off) (MemPlace.mem_row.2 ⟨0,by omega,by simp⟩),fun i hi => ?_⟩
  have h1:=hcell i (by omega)
  rw [add_plain] at h1
  rw [h1]
  simp [List.getD,List.getElem?_take,hi]
theorem trod_struct6 {t : TypeId} {f0 f1 f2 f3 f4 f5 : Field} {fuel : Nat} {cs : List Value} {x : DataW H × List MemPlace} (ht : P.underlying t = some (.struct #[f0,f1,f2,f3,f4,f5])) (h : DataW.trod enc P w base spare held fuel t cs = some x) :
  ∃ y0 y1 y2 y3 y4 y5 n,x=(.agg [y0.1,y1.1,y2.1,y3.1,y4.1,y5.1],y0.2 ++ (y1.2 ++ (y2.2 ++ (y3.2 ++ (y4.2 ++ y5.2))))) ∧ cs.length=P.cellsOf t ∧ DataW.trod enc P w base spare held n f0.type ((cs.drop f0.offset).take (P.cellsOf f0.type))=some y0 ∧
   DataW.trod enc P w base spare held n f1.type ((cs.drop f1.offset).take (P.cellsOf f1.type))=some y1 ∧ DataW.trod enc P w base spare held n f2.type ((cs.drop f2.offset).take (P.cellsOf f2.type))=some y2 ∧
   DataW.trod enc P w base spare held n f3.type ((cs.drop f3.offset).take (P.cellsOf f3.type))=some y3 ∧ DataW.trod enc P w base spare held n f4.type ((cs.drop f4.offset).take (P.cellsOf f4.type))=some y4 ∧
   DataW.trod enc P w base spare held n f5.type ((cs.drop f5.offset).take (P.cellsOf f5.type))=some y5:=by
 obtain ⟨xs,n,_,rfl,hl,hlen,hf⟩:=DataW.trod_struct ht h
 match xs,hlen with
 | [y0,y1,y2,y3,y4,y5],_ => exact ⟨y0,y1,y2,y3,y4,y5,n,by simp,hl,by simpa using hf 0 f0 rfl,by simpa using hf 1 f1 rfl,by simpa using hf 2 f2 rfl,by simpa using hf 3 f3 rfl,by simpa using hf 4 f4 rfl,by simpa using hf 5 f5 rfl⟩
structure TermTy (P : Program) (te : TypeId) (f0 f1 f2 f3 f4 f5 : Field) (ei : TypeId) : Prop where
  un : P.underlying te = some (.struct #[f0, f1, f2, f3, f4, f5])
  off : f0.offset = 0 ∧ f1.offset = 1 ∧ f2.offset = 2 ∧ f3.offset = 3 ∧ f4.offset = 4 ∧ f5.offset = 5
  one : P.cellsOf f0.type = 1 ∧ P.cellsOf f1.type = 1 ∧ P.cellsOf f2.type = 1 ∧ P.cellsOf f3.type = 1 ∧ P.cellsOf f4.type = 1 ∧ P.cellsOf f5.type = 1
  six : P.cellsOf te = 6
  i0 : P.underlying f0.type = some (.int .i64)
  i1 : P.underlying f1.type = some (.int .i64)
  i2 : P.underlying f2.type = some (.int .i64)
  s3 : P.underlying f3.type = some .string
  s4 : P.underlying f4.type = some .string
  l5 : P.underlying f5.type = some (.slice ei)
  ie : P.underlying ei = some (.int .i64)
  ec : P.cellsOf ei = 1
end
section
variable {H : Type} {enc : TypeId × Value → H} {P : Program} {w : World} {base : Nat} {spare : Nat → Bool} {held : Bool}
theorem trod_struct3 {t : TypeId} {f0 f1 f2 : Field} {fuel : Nat} {cs : List Value} {x : DataW H × List MemPlace} (ht : P.underlying t = some (.struct #[f0,f1,f2])) (h : DataW.trod enc P w base spare held fuel t cs = some x) :
  ∃ y0 y1 y2 n,x=(.agg [y0.1,y1.1,y2.1],y0.2 ++ (y1.2 ++ y2.2)) ∧ cs.length=P.cellsOf t ∧ DataW.trod enc P w base spare held n f0.type ((cs.drop f0.offset).take (P.cellsOf f0.type))=some y0 ∧
   DataW.trod enc P w base spare held n f1.type ((cs.drop f1.offset).take (P.cellsOf f1.type))=some y1 ∧ DataW.trod enc P w base spare held n f2.type ((cs.drop f2.offset).take (P.cellsOf f2.type))=some y2:=by
 obtain ⟨xs,n,_,rfl,hl,hlen,hf⟩:=DataW.trod_struct ht h
 match xs,hlen with
 | [y0,y1,y2],_ => exact ⟨y0,y1,y2,n,by simp,hl,by simpa using hf 0 f0 rfl,by simpa using hf 1 f1 rfl,by simpa using hf 2 f2 rfl⟩
end
def AnsWide (a : Ans) : Prop := a.field.size ≤ maxLen ∧ a.text.size ≤ maxLen ∧ (Lit.int .i64 a.num).wf = true
def ShwWide (a : Shw) : Prop := a.field.size ≤ maxLen ∧ a.role.size ≤ maxLen
structure StmWide (s : Stm) : Prop where
  resp : s.resp.size ≤ maxLen
  dep : (Lit.int .i64 s.dep).wf = true
  day : (Lit.int .i64 s.day).wf = true
  an : s.ans.length ≤ maxLen
  ans : ∀ a ∈ s.ans, AnsWide a
  sn : s.shw.length ≤ maxLen
  shw : ∀ a ∈ s.shw, ShwWide a
  cn : s.cond.length ≤ maxLen
  cond : ∀ t ∈ s.cond, TrmWide t
section
variable {H : Type} {enc : TypeId × Value → H} {w : World} {held : Bool}
theorem termTy : ∃ f0 f1 f2 f3 f4 f5,TermTy Tryz.prog 75 f0 f1 f2 f3 f4 f5 3 :=
 ⟨_,_,_,_,_,_,Tryz.underlying75,⟨rfl,rfl,rfl,rfl,rfl,rfl⟩,⟨by kernel_rfl,by kernel_rfl,by kernel_rfl,by kernel_rfl,by kernel_rfl,by kernel_rfl⟩,by kernel_rfl,Tryz.underlying3,Tryz.underlying3,Tryz.underlying3,Tryz.underlying9,Tryz.underlying9,Tryz.underlying22,Tryz.underlying3,by kernel_rfl⟩
end
end Go.Proofs.YtgdngfdeeadlnaaGreatDoor
namespace Go.Proofs.YtgdngfdeeadlnaaGreatDoor
open Go.RowKit Num
def ansN (A : List Ans) : Nat := (A.map fun a => a.field.size + a.text.size).sum
def shwN (A : List Shw) : Nat := (A.map fun a => a.field.size + a.role.size).sum
def trmN (A : List Trm) : Nat := (A.map fun t => t.text.size + t.field.size).sum
def smlN (s : Stm) : Nat := s.resp.size + ansN s.ans + shwN s.shw + trmN s.cond
def smallS (s : Stm) : Bool := (s.cond.all fun t => decide (t.args.length ≤ 30)) && decide (smlN s < 3000) && decide (s.ans.length ≤ 40) && decide (s.shw.length ≤ 30) && decide (s.cond.length ≤ 40)
theorem sum_le {T : Type} (f : T → Nat) : ∀ {A : List T} {a : T},a ∈ A → f a ≤ (A.map f).sum
 | b :: A,a,h => by
  rw [List.map_cons,List.sum_cons]
  rcases List.mem_cons.1 h with rfl | h
  ·omega
  ·have:=sum_le f h
   omega
theorem smallS_ok {s : Stm} (h : smallS s = true) (hw : StmWide s) : StmOk s ∧ ∀ t ∈ s.cond,t.args.length ≤ 30 := by
 unfold smallS at h
 simp only [Bool.and_eq_true,decide_eq_true_eq,List.all_eq_true] at h
 obtain ⟨⟨⟨⟨h1,h2⟩,h3⟩,h4⟩,h5⟩:=h
 unfold smlN at h2
 have hans:∀ a ∈ s.ans,a.field.size+a.text.size ≤ ansN s.ans:=fun a ha => sum_le (fun a:Ans => a.field.size+a.text.size) ha
 have hshw:∀ a ∈ s.shw,a.field.size+a.role.size ≤ shwN s.shw:=fun a ha => sum_le (fun a:Shw => a.field.size+a.role.size) ha
 have htrm:∀ t ∈ s.cond,t.text.size+t.field.size ≤ trmN s.cond:=fun t ht => sum_le (fun t:Trm => t.text.size+t.field.size) ht
 have am:∀ k,k < s.ans.length → ansAt s.ans k ∈ s.ans:=fun k hk => by
  unfold ansAt; rw [List.getD_eq_getElem?_getD,List.getElem?_eq_getElem hk]; exact List.getElem_mem hk
 have sm:∀ k,k < s.shw.length → shwAt s.shw k ∈ s.shw:=fun k hk => by
  unfold shwAt; rw [List.getD_eq_getElem?_getD,List.getElem?_eq_getElem hk]; exact List.getElem_mem hk
 have in64:∀ n:Int,(Lit.int .i64 n).wf=true → In64' n:=fun n hn => by
  have:=bounds_i64 hn
  exact ⟨by omega,by omega⟩
 refine ⟨⟨by omega,in64 _ hw.dep,in64 _ hw.day,by omega,fun k hk => ?_,by omega,fun k hk => ?_,by omega,fun t ht => ?_⟩,h1⟩
 ·have:=hans _ (am k hk)
  exact ⟨by omega,by omega,in64 _ (hw.ans _ (am k hk)).2.2⟩
 ·have:=hshw _ (sm k hk)
  exact ⟨by omega,by omega⟩
 ·have h6:=htrm t ht
  have h7:=h1 t ht
  exact ⟨by omega,by omega,by omega⟩
end Go.Proofs.YtgdngfdeeadlnaaGreatDoor
