/- Words for memory: statements. Plain: their bytes. And more. -/
import Derived.Test.YtfinaekeoeeogaaGreatDoorX03
import Derived.Test.YtfinaekeoeeogaaGreatDoorX04
import Derived.Test.YtfinaekeoeeogaaGreatDoorX08
import Derived.Test.YtfinaekeoeeogaaGreatDoorX06
import Derived.Deep.CutRange
import Derived.Deep.CutBlock
set_option linter.unusedVariables false
set_option linter.unusedSimpArgs false
namespace Go.Proofs.YtfinaekeoeeogaaGreatDoor
open Go.RowKit Num
structure Ans where
  field : ByteArray
  text : ByteArray
  num : Int
structure Shw where
  field : ByteArray
  role : ByteArray
def ansAt (L : List Ans) (k : Nat) : Ans := L.getD k ⟨⟨#[]⟩,⟨#[]⟩,0⟩
def shwAt (L : List Shw) (k : Nat) : Shw := L.getD k ⟨⟨#[]⟩,⟨#[]⟩⟩
def AnssAt (w : World) (S : Nat → Prop) (v : Value) (L : List Ans) : Prop :=
 ∃ (A:Option Addr) (n c:Nat),v=.slice A n c ∧ n=L.length ∧ n ≤ c ∧ (0 < n → ∃ b off,A=some ⟨b,off,none⟩ ∧ S b ∧ ∀ k,k < n → w.cell? ⟨b,off+k*3,none⟩=some (.string (ansAt L k).field) ∧ w.cell? ⟨b,off+k*3+1,none⟩=some (.string (ansAt L k).text) ∧ w.cell? ⟨b,off+k*3+2,none⟩=some (.int .i64 (ansAt L k).num))
def ShwsAt (w : World) (S : Nat → Prop) (v : Value) (L : List Shw) : Prop :=
 ∃ (A:Option Addr) (n c:Nat),v=.slice A n c ∧ n=L.length ∧ n ≤ c ∧ (0 < n → ∃ b off,A=some ⟨b,off,none⟩ ∧ S b ∧ ∀ k,k < n → w.cell? ⟨b,off+k*2,none⟩=some (.string (shwAt L k).field) ∧ w.cell? ⟨b,off+k*2+1,none⟩=some (.string (shwAt L k).role))
theorem AnssAt.keep {w w' : World} {S : Nat → Prop} {v : Value} {L : List Ans} (h : AnssAt w S v L) (hk : ∀ b,S b → w'.heap[b]? = w.heap[b]?) : AnssAt w' S v L := by
 obtain ⟨A,n,c,h1,h2,h3,h4⟩:=h
 refine ⟨A,n,c,h1,h2,h3,fun hn => ?_⟩
 obtain ⟨b,off,hA,hS,hc⟩:=h4 hn
 exact ⟨b,off,hA,hS,fun k hk' => ⟨(World.cell?_of_block (hk b hS)).trans (hc k hk').1,(World.cell?_of_block (hk b hS)).trans (hc k hk').2.1,(World.cell?_of_block (hk b hS)).trans (hc k hk').2.2⟩⟩
theorem AnssAt.mono {w : World} {S T : Nat → Prop} {v : Value} {L : List Ans} (h : AnssAt w S v L) (hk : ∀ b,S b → T b) : AnssAt w T v L := by
 obtain ⟨A,n,c,h1,h2,h3,h4⟩:=h
 refine ⟨A,n,c,h1,h2,h3,fun hn => ?_⟩
 obtain ⟨b,off,hA,hS,hc⟩:=h4 hn
 exact ⟨b,off,hA,hk b hS,hc⟩
theorem ShwsAt.keep {w w' : World} {S : Nat → Prop} {v : Value} {L : List Shw} (h : ShwsAt w S v L) (hk : ∀ b,S b → w'.heap[b]? = w.heap[b]?) : ShwsAt w' S v L := by
 obtain ⟨A,n,c,h1,h2,h3,h4⟩:=h
 refine ⟨A,n,c,h1,h2,h3,fun hn => ?_⟩
 obtain ⟨b,off,hA,hS,hc⟩:=h4 hn
 exact ⟨b,off,hA,hS,fun k hk' => ⟨(World.cell?_of_block (hk b hS)).trans (hc k hk').1,(World.cell?_of_block (hk b hS)).trans (hc k hk').2⟩⟩
theorem ShwsAt.mono {w : World} {S T : Nat → Prop} {v : Value} {L : List Shw} (h : ShwsAt w S v L) (hk : ∀ b,S b → T b) : ShwsAt w T v L := by
 obtain ⟨A,n,c,h1,h2,h3,h4⟩:=h
 refine ⟨A,n,c,h1,h2,h3,fun hn => ?_⟩
 obtain ⟨b,off,hA,hS,hc⟩:=h4 hn
 exact ⟨b,off,hA,hk b hS,hc⟩
structure Stm where
  resp : ByteArray
  dep : Int
  day : Int
  ans : List Ans
  cond : List Trm
  shw : List Shw
structure StmAt (w : World) (S : Nat → Prop) (va vc vs : Value) (s : Stm) : Prop where
  aa : AnssAt w S va s.ans
  cc : TermsAt w S vc s.cond
  ss : ShwsAt w S vs s.shw
theorem StmAt.keep {w w' : World} {S : Nat → Prop} {va vc vs : Value} {s : Stm} (h : StmAt w S va vc vs s) (hk : ∀ b,S b → w'.heap[b]? = w.heap[b]?) : StmAt w' S va vc vs s := ⟨h.aa.keep hk,h.cc.keep hk,h.ss.keep hk⟩
theorem StmAt.mono {w : World} {S T : Nat → Prop} {va vc vs : Value} {s : Stm} (h : StmAt w S va vc vs s) (hk : ∀ b,S b → T b) : StmAt w T va vc vs s := ⟨h.aa.mono hk,h.cc.mono hk,h.ss.mono hk⟩
abbrev In64' (n : Int) : Prop := -9223372036854775808 ≤ n ∧ n < 9223372036854775808
structure StmOk (s : Stm) : Prop where
  resp : s.resp.size ≤ 1000000
  dep : In64' s.dep
  day : In64' s.day
  an : s.ans.length ≤ 1000000
  ans : ∀ k, k < s.ans.length → (ansAt s.ans k).field.size ≤ 1000000 ∧ (ansAt s.ans k).text.size ≤ 1000000 ∧ In64' (ansAt s.ans k).num
  sn : s.shw.length ≤ 1000000
  shw : ∀ k, k < s.shw.length → (shwAt s.shw k).field.size ≤ 1000000 ∧ (shwAt s.shw k).role.size ≤ 1000000
  cn : s.cond.length ≤ 1000000
  cond : ∀ t ∈ s.cond, TrmOk t
def ansL (a : Ans) : List UInt8 := textL a.field ++ textL a.text ++ putB a.num
def shwL (a : Shw) : List UInt8 := textL a.field ++ textL a.role
def headL (s : Stm) : List UInt8 := textL s.resp ++ putB s.dep ++ putB s.day ++ putB (s.ans.length : Int)
def stmA (s : Stm) (k : Nat) : List UInt8 := headL s ++ (s.ans.take k).flatMap ansL
def stmB (s : Stm) (txt : ByteArray) : List UInt8 := stmA s s.ans.length ++ textL txt ++ putB (s.shw.length : Int)
def stmC (s : Stm) (txt : ByteArray) (k : Nat) : List UInt8 := stmB s txt ++ (s.shw.take k).flatMap shwL
def bO (l : List UInt8) : ByteArray := ⟨l.toArray⟩
theorem bO_size (l : List UInt8) : (bO l).size = l.length := by show l.toArray.size = _; rw [List.size_toArray]
theorem bO_app (l m : List UInt8) : bO l ++ ⟨m.toArray⟩ = bO (l ++ m) := bytes_two l m
theorem stmA_succ {s : Stm} {k : Nat} (h : k < s.ans.length) : stmA s (k + 1) = stmA s k ++ textL (ansAt s.ans k).field ++ textL (ansAt s.ans k).text ++ putB (ansAt s.ans k).num := by
 unfold stmA
 have e:ansAt s.ans k=s.ans[k]:=by unfold ansAt; rw [List.getD_eq_getElem?_getD,List.getElem?_eq_getElem h]; rfl
 rw [List.take_succ_eq_append_getElem h,List.flatMap_append,List.flatMap_cons,List.flatMap_nil,List.append_nil,e]
 simp only [ansL,List.append_assoc]
theorem stmC_succ {s : Stm} {txt : ByteArray} {k : Nat} (h : k < s.shw.length) : stmC s txt (k + 1) = stmC s txt k ++ textL (shwAt s.shw k).field ++ textL (shwAt s.shw k).role := by
 unfold stmC
 have e:shwAt s.shw k=s.shw[k]:=by unfold shwAt; rw [List.getD_eq_getElem?_getD,List.getElem?_eq_getElem h]; rfl
 rw [List.take_succ_eq_append_getElem h,List.flatMap_append,List.flatMap_cons,List.flatMap_nil,List.append_nil,e]
 simp only [shwL,List.append_assoc]
theorem headL_len {s : Stm} (h : StmOk s) : (headL s).length ≤ 1000100 := by
 unfold headL
 have:=textL_len s.resp
 have:=putB_len s.dep
 have:=putB_len s.day
 have:=putB_len (s.ans.length:Int)
 have:=h.resp
 simp only [List.length_append]
 omega
theorem stmA_len {s : Stm} (h : StmOk s) : ∀ k,k ≤ s.ans.length → (stmA s k).length ≤ 1000100 + k * 2000100 := by
 intro k
 induction k with
 | zero => intro _; have:=headL_len h; show (headL s ++ []).length ≤ _; simpa using this
 | succ k ih =>
  intro hk
  rw [stmA_succ (by omega)]
  have h1:=ih (by omega)
  obtain ⟨a,b,_⟩:=h.ans k (by omega)
  have:=textL_len (ansAt s.ans k).field
  have:=textL_len (ansAt s.ans k).text
  have:=putB_len (ansAt s.ans k).num
  simp only [List.length_append]
  rw [Nat.succ_mul]
  omega
theorem stmB_len {s : Stm} (h : StmOk s) {txt : ByteArray} (ht : txt.size ≤ 10000) (hn : s.ans.length ≤ 256) : (stmB s txt).length ≤ 600000000 := by
 unfold stmB
 have h1:=stmA_len h s.ans.length (Nat.le_refl _)
 have h2:=textL_len txt
 have h3:=putB_len (s.shw.length:Int)
 have h4:s.ans.length*2000100 ≤ 256*2000100:=Nat.mul_le_mul_right _ hn
 simp only [List.length_append]
 omega
theorem stmC_len {s : Stm} (h : StmOk s) {txt : ByteArray} (ht : txt.size ≤ 10000) (hn : s.ans.length ≤ 256) : ∀ k,k ≤ s.shw.length → (stmC s txt k).length ≤ 600000000 + k * 2000100 := by
 intro k
 induction k with
 | zero => intro _; have:=stmB_len h ht hn; show (stmB s txt ++ []).length ≤ _; simpa using this
 | succ k ih =>
  intro hk
  rw [stmC_succ (by omega)]
  have h1:=ih (by omega)
  obtain ⟨a,b⟩:=h.shw k (by omega)
  have:=textL_len (shwAt s.shw k).field
  have:=textL_len (shwAt s.shw k).role
  simp only [List.length_append]
  rw [Nat.succ_mul]
  omega
def StrQ (x : ByteArray) (W : World) (e : Ending) (w' : World) : Prop := e = .returned (.string x) ∧ Below W.heap.size W w'
section
variable (l : List UInt8) (hl : l.length < 2000000000)
include hl
theorem cq_text (s : ByteArray) (hs : s.size ≤ 1000000) (W : World) : Calls Tryz.prog 40 #[.string (bO l),.string s] W (StrQ (bO (l ++ textL s)) W) := by
 have:=c_PutText (bO l) s W (by rw [bO_size]; omega) (by omega)
 unfold TxtPost at this
 rw [bO_app] at this
 exact this
theorem cq_int (n : Int) (hn : In64' n) (W : World) : Calls Tryz.prog 39 #[.string (bO l),.int .i64 n] W (StrQ (bO (l ++ putB n)) W) := by
 have:=c_PutInt (bO l) n W hn.1 hn.2 (by rw [bO_size]; omega)
 unfold PutPost at this
 rw [bO_app] at this
 exact this
end
def prnS (L : List Trm) : ByteArray := match rootF L with | none => ⟨#[]⟩ | some T => bsOf (txT 6 T)
theorem prnS_size (L : List Trm) : (prnS L).size ≤ 10000 := by
 unfold prnS
 cases h:rootF L with
 | none => exact Nat.zero_le _
 | some T =>
  have:=root_txt h
  show (txT 6 T).toArray.size ≤ _
  rw [List.size_toArray]; exact this
def stmW (s : Stm) : List UInt8 := stmC s (prnS s.cond) s.shw.length
def bytS (s : Stm) : ByteArray := if (rootF s.cond).isSome then (if max s.ans.length s.shw.length ≤ 256 then (if (stmW s).length ≤ 16384 then bO (stmW s) else ⟨#[]⟩) else ⟨#[]⟩) else ⟨#[]⟩
def bytZ (s : Stm) : Int := if (rootF s.cond).isSome then (if max s.ans.length s.shw.length ≤ 256 then (if (stmW s).length ≤ 16384 then 0 else 3) else 3) else 14
def BytE (s : Stm) (w : World) (e : Ending) (w' : World) : Prop := e = .returned (.tuple #[.string (bytS s),.int .i64 (bytZ s)]) ∧ Below w.heap.size w w'
def SameE (La Lb : List Trm) (w : World) (e : Ending) (w' : World) : Prop := ∃ b : Bool,e = .returned (.bool b) ∧ (b = true ↔ La = Lb) ∧ Below w.heap.size w w'
theorem trms_eq {La Lb : List Trm} (hl : La.length = Lb.length) (h : ∀ q,q < La.length → trmAt La q = trmAt Lb q) : La = Lb := by
 apply List.ext_getElem hl
 intro i h1 h2
 have:=h i h1
 unfold trmAt at this
 rwa [List.getD_eq_getElem?_getD,List.getD_eq_getElem?_getD,List.getElem?_eq_getElem h1,List.getElem?_eq_getElem h2] at this
theorem ints_eq {xs ys : List Int} (hl : xs.length = ys.length) (h : ∀ q,q < xs.length → xs.getD q 0 = ys.getD q 0) : xs = ys := by
 apply List.ext_getElem hl
 intro i h1 h2
 have:=h i h1
 rwa [List.getD_eq_getElem?_getD,List.getD_eq_getElem?_getD,List.getElem?_eq_getElem h1,List.getElem?_eq_getElem h2] at this
theorem trmAt_mem {L : List Trm} {k : Nat} (h : k < L.length) : trmAt L k ∈ L := by
 unfold trmAt; rw [List.getD_eq_getElem?_getD,List.getElem?_eq_getElem h]; exact List.getElem_mem h
set_option maxRecDepth 100000 in
set_option maxHeartbeats 4000000 in
theorem r_SameC (va vb : Value) (La Lb : List Trm) (w : World) (ha : TermsAt w (· < w.heap.size) va La) (hb : TermsAt w (· < w.heap.size) vb Lb) (hla : La.length ≤ 1000000) (hlb : Lb.length ≤ 1000000)
  (hka:∀ t ∈ La,t.args.length ≤ 1000000) (hkb:∀ t ∈ Lb,t.args.length ≤ 1000000) :
  Calls Tryz.prog 37 #[.agg #[va],.agg #[vb]] w (SameE La Lb w):=by
 obtain ⟨A,n,c,rfl,hn,hnc,hA⟩:=ha
 obtain ⟨B,m,k,rfl,hm,hmk,hB⟩:=hb
 have n1:n ≤ 1000000:=by omega
 have m1:m ≤ 1000000:=by omega
 have hb0:Below w.heap.size w ((w.alloc (.cells #[.slice A n c] 26)).alloc (.cells #[.slice B m k] 26)):=((Below.refl _ _).alloc (Nat.le_refl _) _).alloc (by simp) _
 have HB0:=Lib.hid hb0
 have HN:=Lib.hid hn
 have HM:=Lib.hid hm
 have HA:=Lib.hid hA
 have HB:=Lib.hid hB
 have HKA:=Lib.hid hka
 have HKB:=Lib.hid hkb
 clear hb0 hn hm hA hB hka hkb hla hlb
 by_cases hnm:n=m
 ·have t0:((n:Int) != (m:Int))=false:=by simp; omega
  have HNM:=Lib.hid hnm
  clear hnm
  have hbA:Blk ((w.alloc (.cells #[.slice A n c] 26)).alloc (.cells #[.slice B m k] 26)) w.heap.size 26 #[.slice A n c]:=(Blk.new w _ _).alloc _
  have hbB:Blk ((w.alloc (.cells #[.slice A n c] 26)).alloc (.cells #[.slice B m k] 26)) (w.heap.size+1) 26 #[.slice B m k]:=by
   have:=Blk.new (w.alloc (.cells #[.slice A n c] 26)) 26 #[.slice B m k]
   rwa [World.size_alloc] at this
  have HBB:=Lib.hid hbB
  clear hbA hbB
  go_enter Tryz.func37,Tryz.ntmps37
  go_wp2_with fail
  generalize hw0:(w.alloc (.cells #[.slice A n c] 26)).alloc (.cells #[.slice B m k] 26)=w0 at *
  have hs0:w0.heap.size=w.heap.size+2:=by rw [← hw0]; simp
  have HS0:=Lib.hid hs0
  clear hw0 hs0
  go_loopw [5,6,7,8,9,20] (fun v5 v6 v7 v8 v9 v20 wr => ∃ i:Nat,i ≤ n ∧ v20=.int .i64 (i:Int) ∧ (∀ q,q < i → trmAt La q=trmAt Lb q) ∧ Below (w.heap.size+2) w0 wr) (fun _ _ _ _ _ v20 _ => n - (intOf v20).toNat)
  case atStart => exact ⟨0,by omega,rfl,(fun q hq => absurd hq (by omega)),Below.refl _ _⟩
  case round =>
   obtain ⟨i,hi,rfl,hq,hbl⟩:=hrel
   rename World => wo
   have HQ:=Lib.hid hq
   have HBL:=Lib.hid hbl
   have hbw:Below w.heap.size w wo:=HB0.out.trans (hbl.mono (by omega))
   have hso:=hbl.size
   have hso2:w.heap.size+2 ≤ wo.heap.size:=by have:=HS0.out; omega
   have cB:=((HBB.out.below' hbl (by omega)).cell 0).trans (show _=some (Value.slice B m k) from rfl)
   have HBW:=Lib.hid hbw
   clear hq hbl hso hbw
   by_cases hlt:i < n
   ·obtain ⟨b,off,rfl,hbb,hc⟩:=HA.out (by omega)
    obtain ⟨b',off',rfl,hbb',hc'⟩:=HB.out (by have:=HNM.out; omega)
    have hta:=(hc i hlt).keep (S:=(· < w.heap.size)) (HBW.out.block b hbb) (fun g hg => HBW.out.block g hg)
    have htb:=(hc' i (by have:=HNM.out; omega)).keep (S:=(· < w.heap.size)) (HBW.out.block b' hbb') (fun g hg => HBW.out.block g hg)
    have hla:(trmAt La i).args.length ≤ 1000000:=HKA.out _ (trmAt_mem (by have:=HN.out; omega))
    have hlb:(trmAt Lb i).args.length ≤ 1000000:=HKB.out _ (trmAt_mem (by have:=HNM.out; have:=HM.out; omega))
    obtain ⟨ta,hta'⟩:∃ ta,trmAt La i=ta:=⟨_,rfl⟩
    obtain ⟨tb,htb'⟩:∃ tb,trmAt Lb i=tb:=⟨_,rfl⟩
    rw [hta'] at hta hla
    rw [htb'] at htb hlb
    obtain ⟨k1,n1',y1,f1,x1,a1⟩:=ta
    obtain ⟨k2,n2',y2,f2,x2,a2⟩:=tb
    obtain ⟨c0,c1,c2,c3,c4,u,c5,hu⟩:=hta
    obtain ⟨d0,d1,d2,d3,d4,u',d5,hu'⟩:=htb
    dsimp only at c0 c1 c2 c3 c4 d0 d1 d2 d3 d4 hu hu' hla hlb
    obtain ⟨A1,q1,e1,rfl,hq1,hqe1,hA1⟩:=hu
    obtain ⟨A2,q2,e2,rfl,hq2,hqe2,hA2⟩:=hu'
    have zi:(i:Int) < (n:Int):=by omega
    have zj:(i:Int) < (m:Int):=by have:=HNM.out; omega
    have hbl':b' < wo.heap.size:=by omega
    have D0:∀ o:Obj,(wo.alloc o).cell? ⟨b',off' + i*6,none⟩=some (.int .i64 k2):=fun o => (World.cell?_alloc_lt wo o ⟨b',off' + i*6,none⟩ hbl').trans d0
    have D1:∀ o:Obj,(wo.alloc o).cell? ⟨b',off' + i*6+1,none⟩=some (.int .i64 n2'):=fun o => (World.cell?_alloc_lt wo o ⟨b',off' + i*6+1,none⟩ hbl').trans d1
    have D2:∀ o:Obj,(wo.alloc o).cell? ⟨b',off' + i*6+2,none⟩=some (.int .i64 y2):=fun o => (World.cell?_alloc_lt wo o ⟨b',off' + i*6+2,none⟩ hbl').trans d2
    have D3:∀ o:Obj,(wo.alloc o).cell? ⟨b',off' + i*6+3,none⟩=some (.string f2):=fun o => (World.cell?_alloc_lt wo o ⟨b',off' + i*6+3,none⟩ hbl').trans d3
    have D4:∀ o:Obj,(wo.alloc o).cell? ⟨b',off' + i*6+4,none⟩=some (.string x2):=fun o => (World.cell?_alloc_lt wo o ⟨b',off' + i*6+4,none⟩ hbl').trans d4
    have D5:∀ o:Obj,(wo.alloc o).cell? ⟨b',off' + i*6+5,none⟩=some (.slice A2 q2 e2):=fun o => (World.cell?_alloc_lt wo o ⟨b',off' + i*6+5,none⟩ hbl').trans d5
    have CB:∀ o:Obj,(wo.alloc o).cell? ⟨w.heap.size+1,0,none⟩=some (.slice (some ⟨b',off',none⟩) m k):=fun o => (World.cell?_alloc_lt wo o ⟨w.heap.size+1,0,none⟩ (by show w.heap.size+1 < _; omega)).trans cB
    have HTA:=Lib.hid hta'
    have HTB:=Lib.hid htb'
    have q1m:q1 ≤ 1000000:=by omega
    have q2m:q2 ≤ 1000000:=by omega
    have HQ1:=Lib.hid hq1
    have HQ2:=Lib.hid hq2
    have HA1:=Lib.hid hA1
    have HA2:=Lib.hid hA2
    clear hta' htb' hq1 hq2 hA1 hA2 hc hc' cB d0 d1 d2 d3 d4 d5
    go_upto_region 7 with fail
    have hx1:Blk ((wo.alloc (.cells #[.int .i64 k1,.int .i64 n1',.int .i64 y1,.string f1,.string x1,.slice A1 q1 e1] 51)).alloc (.cells #[.int .i64 k2,.int .i64 n2',.int .i64 y2,.string f2,.string x2,.slice A2 q2 e2] 51)) wo.heap.size 51 #[.int .i64 k1,.int .i64 n1',.int .i64 y1,.string f1,.string x1,.slice A1 q1 e1]:=(Blk.new wo _ _).alloc _
    have hx2:Blk ((wo.alloc (.cells #[.int .i64 k1,.int .i64 n1',.int .i64 y1,.string f1,.string x1,.slice A1 q1 e1] 51)).alloc (.cells #[.int .i64 k2,.int .i64 n2',.int .i64 y2,.string f2,.string x2,.slice A2 q2 e2] 51)) (wo.heap.size+1) 51 #[.int .i64 k2,.int .i64 n2',.int .i64 y2,.string f2,.string x2,.slice A2 q2 e2]:=by
     have:=Blk.new (wo.alloc (.cells #[.int .i64 k1,.int .i64 n1',.int .i64 y1,.string f1,.string x1,.slice A1 q1 e1] 51)) 51 #[.int .i64 k2,.int .i64 n2',.int .i64 y2,.string f2,.string x2,.slice A2 q2 e2]
     rwa [World.size_alloc] at this
    have hbx:Below wo.heap.size wo ((wo.alloc (.cells #[.int .i64 k1,.int .i64 n1',.int .i64 y1,.string f1,.string x1,.slice A1 q1 e1] 51)).alloc (.cells #[.int .i64 k2,.int .i64 n2',.int .i64 y2,.string f2,.string x2,.slice A2 q2 e2] 51)):=((Below.refl _ _).alloc (Nat.le_refl _) _).alloc (by simp) _
    obtain ⟨wx,hwx⟩:∃ wx,(wo.alloc (.cells #[.int .i64 k1,.int .i64 n1',.int .i64 y1,.string f1,.string x1,.slice A1 q1 e1] 51)).alloc (.cells #[.int .i64 k2,.int .i64 n2',.int .i64 y2,.string f2,.string x2,.slice A2 q2 e2] 51)=wx:=⟨_,rfl⟩
    rw [hwx] at hx1 hx2 hbx ⊢
    clear hwx D0 D1 D2 D3 D4 D5 CB c0 c1 c2 c3 c4 c5
    have X0:=(hx1.cell 0).trans (show _=some (Value.int .i64 k1) from rfl)
    have Y0:=(hx2.cell 0).trans (show _=some (Value.int .i64 k2) from rfl)
    have X1:=(hx1.cell 1).trans (show _=some (Value.int .i64 n1') from rfl)
    have Y1:=(hx2.cell 1).trans (show _=some (Value.int .i64 n2') from rfl)
    have X2:=(hx1.cell 2).trans (show _=some (Value.int .i64 y1) from rfl)
    have Y2:=(hx2.cell 2).trans (show _=some (Value.int .i64 y2) from rfl)
    have X3:=(hx1.cell 3).trans (show _=some (Value.string f1) from rfl)
    have Y3:=(hx2.cell 3).trans (show _=some (Value.string f2) from rfl)
    have X4:=(hx1.cell 4).trans (show _=some (Value.string x1) from rfl)
    have Y4:=(hx2.cell 4).trans (show _=some (Value.string x2) from rfl)
    have X5:=(hx1.cell 5).trans (show _=some (Value.slice A1 q1 e1) from rfl)
    have Y5:=(hx2.cell 5).trans (show _=some (Value.slice A2 q2 e2) from rfl)
    have HX:=Lib.hid (HBW.out.trans (hbx.mono (by omega)))
    have HX2:=Lib.hid (HBL.out.trans (hbx.mono (by omega)))
    have HXO:=Lib.hid hbx
    clear hx1 hx2 hbx
    by_cases e1:k1=k2
    ·have g1:(k1 != k2)=false:=by simp [e1]
     have He1:=Lib.hid e1
     clear e1
     by_cases e2:n1'=n2'
     ·have g2:(n1' != n2')=false:=by simp [e2]
      have He2:=Lib.hid e2
      clear e2
      by_cases e3:y1=y2
      ·have g3:(y1 != y2)=false:=by simp [e3]
       have He3:=Lib.hid e3
       clear e3
       by_cases e4:f1=f2
       ·have g4:(f1.toList == f2.toList)=true:=seq_true e4
        have He4:=Lib.hid e4
        clear e4
        by_cases e5:x1=x2
        ·have g5:(x1.toList == x2.toList)=true:=seq_true e5
         have He5:=Lib.hid e5
         clear e5
         by_cases e6:q1=q2
         ·have g6:((q1:Int) != (q2:Int))=false:=by simp; omega
          have He6:=Lib.hid e6
          clear e6
          go_wp2_with fail
          go_loopw [8,9,75] (fun v8 v9 v75 wq => ∃ j:Nat,j ≤ q1 ∧ v75=.int .i64 (j:Int) ∧ (∀ q,q < j → a1.getD q 0=a2.getD q 0) ∧ wx=wq) (fun _ _ v75 _ => q1 - (intOf v75).toNat)
          case atStart => exact ⟨0,by omega,rfl,(fun q hq => absurd hq (by omega)),rfl⟩
          case round =>
           obtain ⟨j,hj,rfl,hq,rfl⟩:=hrel
           have HJ:=Lib.hid hq
           clear hq
           by_cases hjl:j < q1
           ·obtain ⟨p,o,rfl,hp,hcp⟩:=HA1.out (by omega)
            obtain ⟨p',o',rfl,hp',hcp'⟩:=HA2.out (by have:=He6.out; omega)
            have r0:wx.cell? ⟨p,o+j,none⟩=_:=(HXO.out.cell (p:=⟨p,o+j,none⟩) (by have hp2:p < w.heap.size:=hp; show p < _; omega)).trans (hcp j hjl)
            have r1:wx.cell? ⟨p',o' + j,none⟩=_:=(HXO.out.cell (p:=⟨p',o' + j,none⟩) (by have hp2:p' < w.heap.size:=hp'; show p' < _; omega)).trans (hcp' j (by have:=He6.out; omega))
            have s0:(j:Int) < (q1:Int):=by omega
            have s1:(j:Int) < (q2:Int):=by have:=He6.out; omega
            obtain ⟨x,hx⟩:∃ x,a1.getD j 0=x:=⟨_,rfl⟩
            obtain ⟨y,hy⟩:∃ y,a2.getD j 0=y:=⟨_,rfl⟩
            rw [hx] at r0
            rw [hy] at r1
            have HXX:=Lib.hid hx
            have HYY:=Lib.hid hy
            clear hx hy hcp hcp'
            by_cases hxy:x=y
            ·have t1:((y:Int) != x)=false:=by simp [hxy]
             have HXY:=Lib.hid hxy
             clear hxy
             go_wp2_with fail
             go_roundw
             case measure => simp [intOf]; omega
             case rel => exact ⟨j+1,by omega,by go_num,(fun q hq => by
              rcases Nat.lt_or_ge q j with h | h
              ·exact HJ.out q h
              ·have:q=j:=by omega
               subst this; rw [HXX.out,HYY.out]; exact HXY.out),by first | rfl | trivial⟩
            ·have t1:((y:Int) != x)=true:=by rw [bne_iff_ne]; exact fun h => hxy h.symm
             go_wp2_with fail
             go_ret
             refine ⟨false,rfl,iff_of_false (by simp) (fun e => ?_),HX.out⟩
             have h9:=(HTA.out.symm.trans (congrArg (fun L => trmAt L i) e)).trans HTB.out
             injection h9 with j1 j2 j3 j4 j5 j6
             exact hxy (by rw [← HXX.out,← HYY.out,j6])
           ·have hjk:j=q1:=by omega
            have s0:¬ (j:Int) < (q1:Int):=by omega
            have HJK:=Lib.hid hjk
            clear hjk
            go_wp2_with fail
            go_roundw
            case measure => simp [intOf]; omega
            case rel =>
             refine ⟨i+1,by omega,by go_num,(fun q hq => ?_),HX2.out⟩
             rcases Nat.lt_or_ge q i with h | h
             ·exact HQ.out q h
             ·have:q=i:=by omega
              subst this
              rw [HTA.out,HTB.out,He1.out,He2.out,He3.out,He4.out,He5.out,ints_eq (xs:=a1) (ys:=a2) (by rw [← HQ1.out,← HQ2.out]; exact He6.out) (fun q hq => HJ.out q (by rw [HJK.out,HQ1.out]; exact hq))]
         ·have g6:((q1:Int) != (q2:Int))=true:=by rw [bne_iff_ne]; omega
          go_wp2_with fail
          go_ret
          refine ⟨false,rfl,iff_of_false (by simp) (fun e => ?_),HX.out⟩
          have h9:=(HTA.out.symm.trans (congrArg (fun L => trmAt L i) e)).trans HTB.out
          injection h9 with j1 j2 j3 j4 j5 j6
          exact e6 (by rw [HQ1.out,HQ2.out,j6])
        ·have g5:(x1.toList == x2.toList)=false:=seq_false (fun h => e5 (blOf_inj h))
         go_wp2_with fail
         go_ret
         refine ⟨false,rfl,iff_of_false (by simp) (fun e => ?_),HX.out⟩
         have h9:=(HTA.out.symm.trans (congrArg (fun L => trmAt L i) e)).trans HTB.out
         injection h9 with j1 j2 j3 j4 j5 j6
         exact e5 j5
       ·have g4:(f1.toList == f2.toList)=false:=seq_false (fun h => e4 (blOf_inj h))
        go_wp2_with fail
        go_ret
        refine ⟨false,rfl,iff_of_false (by simp) (fun e => ?_),HX.out⟩
        have h9:=(HTA.out.symm.trans (congrArg (fun L => trmAt L i) e)).trans HTB.out
        injection h9 with j1 j2 j3 j4 j5 j6
        exact e4 j4
      ·have g3:(y1 != y2)=true:=by rw [bne_iff_ne]; exact e3
       go_wp2_with fail
       go_ret
       refine ⟨false,rfl,iff_of_false (by simp) (fun e => ?_),HX.out⟩
       have h9:=(HTA.out.symm.trans (congrArg (fun L => trmAt L i) e)).trans HTB.out
       injection h9 with j1 j2 j3 j4 j5 j6
       exact e3 j3
     ·have g2:(n1' != n2')=true:=by rw [bne_iff_ne]; exact e2
      go_wp2_with fail
      go_ret
      refine ⟨false,rfl,iff_of_false (by simp) (fun e => ?_),HX.out⟩
      have h9:=(HTA.out.symm.trans (congrArg (fun L => trmAt L i) e)).trans HTB.out
      injection h9 with j1 j2 j3 j4 j5 j6
      exact e2 j2
    ·have g1:(k1 != k2)=true:=by rw [bne_iff_ne]; exact e1
     go_wp2_with fail
     go_ret
     refine ⟨false,rfl,iff_of_false (by simp) (fun e => ?_),HX.out⟩
     have h9:=(HTA.out.symm.trans (congrArg (fun L => trmAt L i) e)).trans HTB.out
     injection h9 with j1 j2 j3 j4 j5 j6
     exact e1 j1
   ·have hin:i=n:=by omega
    have s0:¬ (i:Int) < (n:Int):=by omega
    have HIN:=Lib.hid hin
    clear hin
    go_wp2_with fail
    go_ret
    exact ⟨true,rfl,iff_of_true rfl (trms_eq (by rw [← HN.out,← HM.out]; exact HNM.out) (fun q hq => HQ.out q (by rw [HIN.out,HN.out]; exact hq))),HBW.out⟩
 ·have t0:((n:Int) != (m:Int))=true:=by rw [bne_iff_ne]; omega
  go_enter Tryz.func37,Tryz.ntmps37
  go_wp2_with fail
  go_ret
  exact ⟨false,rfl,iff_of_false (by simp) (fun e => hnm (by rw [HN.out,HM.out,e])),HB0.out⟩
def TermZ (w : World) (b : Nat) (t : Trm) : Prop := w.cell? ⟨b,0,none⟩ = some (.int .i64 t.kind) ∧ w.cell? ⟨b,1,none⟩ = some (.int .i64 t.num) ∧ w.cell? ⟨b,2,none⟩ = some (.int .i64 t.yrs) ∧
 w.cell? ⟨b,3,none⟩=some (.string t.field) ∧ w.cell? ⟨b,4,none⟩=some (.string t.text) ∧ w.cell? ⟨b,5,none⟩=some (.slice none 0 0) ∧ t.args = []
theorem TermZ.keep {w w' : World} {b : Nat} {t : Trm} (h : TermZ w b t) (hb : w'.heap[b]? = w.heap[b]?) : TermZ w' b t := by
 obtain ⟨h0,h1,h2,h3,h4,h5,h6⟩:=h
 have e:∀ o,w'.cell? ⟨b,o,none⟩=w.cell? ⟨b,o,none⟩:=fun o => World.cell?_of_block hb
 exact ⟨(e _).trans h0,(e _).trans h1,(e _).trans h2,(e _).trans h3,(e _).trans h4,(e _).trans h5,h6⟩
def TreeZ (w : World) (S : Nat → Prop) : Nat → Value → Tree → Prop
 | 0,_,_ => False
 | d+1,v,.node t xs => ∃ b,v=.pointer (some ⟨b,0,none⟩) ∧ S b ∧ TermZ w b t ∧ ∃ A n c,w.cell? ⟨b,6,none⟩=some (.slice A n c) ∧ n=xs.length ∧ n ≤ c ∧
  (0 < n → ∃ g off,A=some ⟨g,off,none⟩ ∧ S g ∧ ∀ k x,xs[k]?=some x → ∃ p,w.cell? ⟨g,off+k,none⟩=some p ∧ TreeZ w S d p x)
theorem TreeZ.keep {w w' : World} {S : Nat → Prop} (hk : ∀ b,S b → w'.heap[b]? = w.heap[b]?) : ∀ {d v T},TreeZ w S d v T → TreeZ w' S d v T := by
 intro d
 induction d with
 | zero => intro v T h; exact h.elim
 | succ d ih =>
  intro v T h
  obtain ⟨t,xs⟩:=T
  obtain ⟨b,h1,h2,h3,A,n,c,h4,h5,h6,h7⟩:=h
  refine ⟨b,h1,h2,h3.keep (hk b h2),A,n,c,(World.cell?_of_block (hk b h2)).trans h4,h5,h6,fun hn => ?_⟩
  obtain ⟨g,off,hA,hg,hc⟩:=h7 hn
  refine ⟨g,off,hA,hg,fun k x hx => ?_⟩
  obtain ⟨p,hp,ht⟩:=hc k x hx
  exact ⟨p,(World.cell?_of_block (hk g hg)).trans hp,ih ht⟩
theorem TreeZ.mono {w : World} {S S' : Nat → Prop} {d : Nat} {v : Value} {T : Tree} (h : TreeZ w S d v T) (hk : ∀ b,S b → S' b) : TreeZ w S' d v T := by
 induction d generalizing v T with
 | zero => exact h.elim
 | succ d ih =>
  obtain ⟨t,xs⟩:=T
  obtain ⟨b,h1,h2,h3,A,n,c,h4,h5,h6,h7⟩:=h
  refine ⟨b,h1,hk b h2,h3,A,n,c,h4,h5,h6,fun hn => ?_⟩
  obtain ⟨g,off,hA,hg,hc⟩:=h7 hn
  refine ⟨g,off,hA,hk g hg,fun k x hx => ?_⟩
  obtain ⟨p,hp,ht⟩:=hc k x hx
  exact ⟨p,hp,ih ht⟩
theorem TreeZ.deeper {w : World} {S : Nat → Prop} {d f : Nat} {v : Value} {T : Tree} (h : TreeZ w S d v T) (hf : d ≤ f) : TreeZ w S f v T := by
 induction d generalizing f v T with
 | zero => exact h.elim
 | succ d ih =>
  obtain ⟨f,rfl⟩:∃ g,f=g+1:=⟨f - 1,by omega⟩
  obtain ⟨t,xs⟩:=T
  obtain ⟨b,h1,h2,h3,A,n,c,h4,h5,h6,h7⟩:=h
  refine ⟨b,h1,h2,h3,A,n,c,h4,h5,h6,fun hn => ?_⟩
  obtain ⟨g,off,hA,hg,hc⟩:=h7 hn
  refine ⟨g,off,hA,hg,fun k x hx => ?_⟩
  obtain ⟨p,hp,ht⟩:=hc k x hx
  exact ⟨p,hp,ih ht (by omega)⟩
theorem TreeZ.ptr {w : World} {S : Nat → Prop} {d : Nat} {v : Value} {T : Tree} (h : TreeZ w S d v T) : ∃ b,v = .pointer (some ⟨b,0,none⟩) ∧ S b := by
 cases d with
 | zero => exact h.elim
 | succ d => obtain ⟨t,xs⟩:=T; obtain ⟨b,h1,h2,_⟩:=h; exact ⟨b,h1,h2⟩
def KidZ (w : World) (S : Nat → Prop) (d : Nat) (ps : List Value) (xs : List Tree) : Prop := ∀ (i : Nat) (x : Tree),xs[i]? = some x → ∃ p,ps[i]? = some p ∧ TreeZ w S d p x
theorem KidZ.keep {w w' : World} {S T : Nat → Prop} {d : Nat} {ps : List Value} {xs : List Tree} (h : KidZ w S d ps xs) (hk : ∀ b,S b → w'.heap[b]? = w.heap[b]?) (hm : ∀ b,S b → T b) : KidZ w' T d ps xs := by
 intro i x hx
 obtain ⟨p,hp,ht⟩:=h i x hx
 exact ⟨p,hp,(ht.keep hk).mono hm⟩
theorem KidZ.snoc {w : World} {S : Nat → Prop} {d : Nat} {ps : List Value} {xs : List Tree} {p : Value} {x : Tree} (h : KidZ w S d ps xs) (hl : ps.length = xs.length) (hx : TreeZ w S d p x) : KidZ w S d (ps ++ [p]) (xs ++ [x]) := by
 intro i y hy
 rcases Nat.lt_or_ge i xs.length with hi | hi
 ·rw [List.getElem?_append_left hi] at hy
  obtain ⟨q,hq,ht⟩:=h i y hy
  exact ⟨q,by rw [List.getElem?_append_left (by omega)]; exact hq,ht⟩
 ·rw [List.getElem?_append_right hi] at hy
  have h0:i - xs.length=0:=by
   rcases Nat.eq_zero_or_pos (i - xs.length) with h | h
   ·exact h
   ·rw [List.getElem?_eq_none (by simp; omega)] at hy; cases hy
  rw [h0] at hy
  injection hy with hy
  subst hy
  exact ⟨p,by rw [List.getElem?_append_right (by omega),show i - ps.length=0 by omega]; rfl,hx⟩
end Go.Proofs.YtfinaekeoeeogaaGreatDoor
