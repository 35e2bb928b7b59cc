/- Contracts: the statement StatementShows. -/
import Derived.Test.YtgdngfdeeadlnaaGreatDoorY35
import Derived.Test.YtgdngfdeeadlnaaGreatDoorY37
import Derived.Test.YtgdngfdeeadlnaaGreatDoorY39
import Derived.Test.YtgdngfdeeadlnaaGreatDoorY43
import Derived.Deep.CutRange
set_option linter.unusedVariables false
set_option linter.unusedSimpArgs false
namespace Go.Proofs.YtgdngfdeeadlnaaGreatDoor
open Go.RowKit Num
section
variable {P : Program} {md : Region.Mode} {ops : Array Oper} {Q : Exit → Act → World → Prop} {S : World → Prop} {fuel : Nat} {listed : Array Bool} {a : Act} {w : World}
theorem rd1 (i : Nat) {o1 : Oper} (hr : Region.ready md ops listed = [i]) (ei : ops[i]? = some o1) (hi : ∀ K' : Act → World → Prop,Shut (∀ a w,S w → (S w → wpAnyH P md ops Q S fuel (listed.setIfInBounds i true) a w) → K' a w) → if Region.wanted o1 (yielded ops a.tmps) = true then Oper.wp P o1 a w K' Q else K' (a.put o1.dst undef) w) : wpAnyH P md ops Q S (fuel + 1) listed a w := wpAnyH_ready hr (by simp) (AllReadyH.cons ei hi AllReadyH.nil)
theorem rd2 (i j : Nat) {o1 o2 : Oper} (hr : Region.ready md ops listed = [i,j]) (ei : ops[i]? = some o1) (ej : ops[j]? = some o2) (hi : ∀ K' : Act → World → Prop,Shut (∀ a w,S w → (S w → wpAnyH P md ops Q S fuel (listed.setIfInBounds i true) a w) → K' a w) → if Region.wanted o1 (yielded ops a.tmps) = true then Oper.wp P o1 a w K' Q else K' (a.put o1.dst undef) w) (hj : ∀ K' : Act → World → Prop,Shut (∀ a w,S w → (S w → wpAnyH P md ops Q S fuel (listed.setIfInBounds j true) a w) → K' a w) → if Region.wanted o2 (yielded ops a.tmps) = true then Oper.wp P o2 a w K' Q else K' (a.put o2.dst undef) w) : wpAnyH P md ops Q S (fuel + 1) listed a w := wpAnyH_ready hr (by simp) (AllReadyH.cons ei hi (AllReadyH.cons ej hj AllReadyH.nil))
theorem rd3 (i j k : Nat) {o1 o2 o3 : Oper} (hr : Region.ready md ops listed = [i,j,k]) (ei : ops[i]? = some o1) (ej : ops[j]? = some o2) (ek : ops[k]? = some o3) (hi : ∀ K' : Act → World → Prop,Shut (∀ a w,S w → (S w → wpAnyH P md ops Q S fuel (listed.setIfInBounds i true) a w) → K' a w) → if Region.wanted o1 (yielded ops a.tmps) = true then Oper.wp P o1 a w K' Q else K' (a.put o1.dst undef) w) (hj : ∀ K' : Act → World → Prop,Shut (∀ a w,S w → (S w → wpAnyH P md ops Q S fuel (listed.setIfInBounds j true) a w) → K' a w) → if Region.wanted o2 (yielded ops a.tmps) = true then Oper.wp P o2 a w K' Q else K' (a.put o2.dst undef) w) (hk : ∀ K' : Act → World → Prop,Shut (∀ a w,S w → (S w → wpAnyH P md ops Q S fuel (listed.setIfInBounds k true) a w) → K' a w) → if Region.wanted o3 (yielded ops a.tmps) = true then Oper.wp P o3 a w K' Q else K' (a.put o3.dst undef) w) : wpAnyH P md ops Q S (fuel + 1) listed a w := wpAnyH_ready hr (by simp) (AllReadyH.cons ei hi (AllReadyH.cons ej hj (AllReadyH.cons ek hk AllReadyH.nil)))
end
theorem sameB_self {α : Type} {x : α} {w w' : World} {e : Ending} (h : SameB (x = x) w e w') : SamD true w e w' := by
 obtain ⟨b,he,hb,hB⟩:=h
 rw [hb.2 rfl] at he
 exact ⟨he,hB⟩
theorem terms_nil (W : World) (S : Nat → Prop) : TermsAt W S (.slice none 0 0) [] := ⟨none,0,0,rfl,rfl,Nat.le_refl _,fun h => absurd h (Nat.lt_irrefl _)⟩
theorem shws_nil (W : World) (S : Nat → Prop) : ShwsAt W S (.slice none 0 0) [] := ⟨none,0,0,rfl,rfl,Nat.le_refl _,fun h => absurd h (Nat.lt_irrefl _)⟩
theorem vis_at {W : World} {S : Nat → Prop} {s : Stm} {r : ByteArray} {v : Value} (h : AnssAt W S v (visS s r).ans) : StmAt W S v (.slice none 0 0) (.slice none 0 0) (visS s r) := ⟨h,terms_nil _ _,shws_nil _ _⟩
def alM (u : World) : World := u.alloc (.cells #[.string ⟨#[]⟩,.int .i64 0,.int .i64 0,.int .i64 0,.slice none 0 0] 45)
def setM (u : World) (b : Nat) (p : ByteArray) (m d y : Int) (v : Value) : World := ((((u.setCell ⟨b,0,none⟩ (.string p)).setCell ⟨b,1,none⟩ (.int .i64 m)).setCell ⟨b,2,none⟩ (.int .i64 d)).setCell ⟨b,3,none⟩ (.int .i64 y)).setCell ⟨b,4,none⟩ v
section
variable {ops : Array Oper} {o : Oper} {a : Act} {w : World} {Kk : Act → World → Prop} {Q : Exit → Act → World → Prop} {E : Prop}
theorem step_mem (hgd : o.guard = none) (ho : o.op = .alloc 45)
  (h:Kk (a.put o.dst (.pointer (some ⟨w.heap.size,0,none⟩))) (alM w)):if Region.wanted o (yielded ops a.tmps)=true then Oper.wp Tryz.prog o a w Kk Q else E:=by
 have hw:Region.wanted o (yielded ops a.tmps)=true:=by simp [Region.wanted,hgd]
 rw [if_pos hw]
 unfold Oper.wp execOp
 simp only [ho]
 unfold alM at h
 go_simp
 exact h
theorem step_mst (hgd : o.guard = none) (hd : o.dst = none) {x y : Operand} (ho : o.op = .store 45 x y) {b : Nat} {p : ByteArray} {m d z : Int} {A : Option Addr} {k l : Nat} (hb : Blk w b 45 #[.string ⟨#[]⟩,.int .i64 0,.int .i64 0,.int .i64 0,.slice none 0 0]) (hx : a.eval x = .pointer (some ⟨b,0,none⟩)) (hy : a.eval y = .agg #[.string p,.int .i64 m,.int .i64 d,.int .i64 z,.slice A k l])
  (h:Kk a (setM w b p m d z (.slice A k l))):if Region.wanted o (yielded ops a.tmps)=true then Oper.wp Tryz.prog o a w Kk Q else E:=by
 have hw:Region.wanted o (yielded ops a.tmps)=true:=by simp [Region.wanted,hgd]
 rw [if_pos hw]
 have r0:=(hb.cell 0).trans (show _=some (Value.string ⟨#[]⟩) from rfl)
 have r1:=(hb.cell 1).trans (show _=some (Value.int .i64 0) from rfl)
 have r2:=(hb.cell 2).trans (show _=some (Value.int .i64 0) from rfl)
 have r3:=(hb.cell 3).trans (show _=some (Value.int .i64 0) from rfl)
 have r4:=(hb.cell 4).trans (show _=some (Value.slice none 0 0) from rfl)
 have g0:=hb.frozen 0
 have g1:=hb.frozen 1
 have g2:=hb.frozen 2
 have g3:=hb.frozen 3
 have g4:=hb.frozen 4
 clear hb
 unfold setM at h
 unfold Oper.wp execOp
 simp only [ho,hx,hy]
 go_simp
 first | exact h | (simp only [hd]; exact h)
end
def MbQ (w0 : World) (x : Stm) (p : ByteArray) (m : Int) (p1 p2 : Value) (W : World) : Prop := ∃ b c A k d A' k' d',p1 = .pointer (some ⟨b,0,none⟩) ∧ p2 = .pointer (some ⟨c,0,none⟩) ∧ Blk W b 45 #[.string p,.int .i64 m,.int .i64 x.dep,.int .i64 x.day,.slice A k d] ∧ Blk W c 45 #[.string p,.int .i64 m,.int .i64 x.dep,.int .i64 x.day,.slice A' k' d'] ∧ AnssAt W (· < W.heap.size) (.slice A k d) x.ans ∧ AnssAt W (· < W.heap.size) (.slice A' k' d') x.ans ∧ Below w0.heap.size w0 W
theorem mem_set {u : World} {b : Nat} {p : ByteArray} {m d y : Int} {v : Value} (hb : Blk u b 45 #[.string ⟨#[]⟩,.int .i64 0,.int .i64 0,.int .i64 0,.slice none 0 0]) : Blk (setM u b p m d y v) b 45 #[.string p,.int .i64 m,.int .i64 d,.int .i64 y,v] ∧ Chg u (setM u b p m d y v) (fun q => q = b) := by
 unfold setM
 exact ⟨((((hb.set_ 0 _).set_ 1 _).set_ 2 _).set_ 3 _).set_ 4 _,Chg.setCell (Chg.setCell (Chg.setCell (Chg.setCell (Chg.setCell (Chg.refl u (fun q => q=b)) ⟨b,0,none⟩ (fun _ => rfl) _) ⟨b,1,none⟩ (fun _ => rfl) _) ⟨b,2,none⟩ (fun _ => rfl) _) ⟨b,3,none⟩ (fun _ => rfl) _) ⟨b,4,none⟩ (fun _ => rfl) _⟩
structure MS (w0 W : World) (x : Stm) (o8 o9 : Option Nat) (v1 v2 : Option Value) : Prop where
  bel : Below w0.heap.size w0 W
  b8 : ∀ b, o8 = some b → w0.heap.size ≤ b ∧ Blk W b 45 #[.string ⟨#[]⟩, .int .i64 0, .int .i64 0, .int .i64 0, .slice none 0 0]
  b9 : ∀ b, o9 = some b → w0.heap.size ≤ b ∧ Blk W b 45 #[.string ⟨#[]⟩, .int .i64 0, .int .i64 0, .int .i64 0, .slice none 0 0]
  ne : ∀ b, o8 = some b → o9 ≠ some b
  a1 : ∀ v, v1 = some v → AnssAt W (fun q => q < W.heap.size ∧ o8 ≠ some q ∧ o9 ≠ some q) v x.ans
  a2 : ∀ v, v2 = some v → AnssAt W (fun q => q < W.heap.size ∧ o8 ≠ some q ∧ o9 ≠ some q) v x.ans
section
variable {w0 W W' : World} {x : Stm} {o8 o9 : Option Nat} {v1 v2 : Option Value} {v : Value}
theorem MS.below (h : MS w0 W x o8 o9 v1 v2) (hb : Below W.heap.size W W') : MS w0 W' x o8 o9 v1 v2 :=
 ⟨h.bel.trans (hb.mono h.bel.size),fun b e => ⟨(h.b8 b e).1,(h.b8 b e).2.below' hb (h.b8 b e).2.lt⟩,fun b e => ⟨(h.b9 b e).1,(h.b9 b e).2.below' hb (h.b9 b e).2.lt⟩,h.ne,
  fun v e => ((h.a1 v e).keep fun q hq => hb.block q hq.1).mono fun q hq => ⟨Nat.lt_of_lt_of_le hq.1 hb.size,hq.2⟩,fun v e => ((h.a2 v e).keep fun q hq => hb.block q hq.1).mono fun q hq => ⟨Nat.lt_of_lt_of_le hq.1 hb.size,hq.2⟩⟩
theorem MS.fresh (h : MS w0 W x o8 o9 v1 v2) {q : Nat} (hq : W.heap.size ≤ q) : o8 ≠ some q ∧ o9 ≠ some q :=
 ⟨fun e => by have:=(h.b8 q e).2.lt; omega,fun e => by have:=(h.b9 q e).2.lt; omega⟩
theorem MS.ans1 (h : MS w0 W x o8 o9 none v2) (hb : Below W.heap.size W W') (ha : AnssAt W' (fun b => W.heap.size ≤ b ∧ b < W'.heap.size) v x.ans) : MS w0 W' x o8 o9 (some v) v2 :=
 let k:=h.below hb
 ⟨k.bel,k.b8,k.b9,k.ne,fun u e => by injection e with e; subst e; exact ha.mono fun q hq => ⟨hq.2,h.fresh hq.1⟩,k.a2⟩
theorem MS.ans2 (h : MS w0 W x o8 o9 v1 none) (hb : Below W.heap.size W W') (ha : AnssAt W' (fun b => W.heap.size ≤ b ∧ b < W'.heap.size) v x.ans) : MS w0 W' x o8 o9 v1 (some v) :=
 let k:=h.below hb
 ⟨k.bel,k.b8,k.b9,k.ne,k.a1,fun u e => by injection e with e; subst e; exact ha.mono fun q hq => ⟨hq.2,h.fresh hq.1⟩⟩
theorem MS.mem8 (h : MS w0 W x none o9 v1 v2) : MS w0 (alM W) x (some W.heap.size) o9 v1 v2 :=
 let k:=h.below (below_al' W (.cells #[.string ⟨#[]⟩,.int .i64 0,.int .i64 0,.int .i64 0,.slice none 0 0] 45))
 ⟨k.bel,fun b e => by injection e with e; subst e; exact ⟨h.bel.size,Blk.new W 45 #[.string ⟨#[]⟩,.int .i64 0,.int .i64 0,.int .i64 0,.slice none 0 0]⟩,k.b9,fun b e => by injection e with e; subst e; exact (h.fresh (Nat.le_refl _)).2,
  fun v e => ((h.a1 v e).keep fun q hq => Below.heap_alloc W _ q hq.1).mono fun q hq => ⟨by unfold alM; rw [World.size_alloc]; omega,fun e => by injection e; omega,hq.2.2⟩,
  fun v e => ((h.a2 v e).keep fun q hq => Below.heap_alloc W _ q hq.1).mono fun q hq => ⟨by unfold alM; rw [World.size_alloc]; omega,fun e => by injection e; omega,hq.2.2⟩⟩
theorem MS.mem9 (h : MS w0 W x o8 none v1 v2) : MS w0 (alM W) x o8 (some W.heap.size) v1 v2 :=
 let k:=h.below (below_al' W (.cells #[.string ⟨#[]⟩,.int .i64 0,.int .i64 0,.int .i64 0,.slice none 0 0] 45))
 ⟨k.bel,k.b8,fun b e => by injection e with e; subst e; exact ⟨h.bel.size,Blk.new W 45 #[.string ⟨#[]⟩,.int .i64 0,.int .i64 0,.int .i64 0,.slice none 0 0]⟩,fun b e e2 => by injection e2 with e2; subst e2; exact (h.fresh (Nat.le_refl _)).1 e,
  fun v e => ((h.a1 v e).keep fun q hq => Below.heap_alloc W _ q hq.1).mono fun q hq => ⟨by unfold alM; rw [World.size_alloc]; omega,hq.2.1,fun e => by injection e; omega⟩,
  fun v e => ((h.a2 v e).keep fun q hq => Below.heap_alloc W _ q hq.1).mono fun q hq => ⟨by unfold alM; rw [World.size_alloc]; omega,hq.2.1,fun e => by injection e; omega⟩⟩
theorem MS.fin {p : ByteArray} {m : Int} {b c k d k' d' : Nat} {A A' : Option Addr} (h : MS w0 W x (some b) (some c) (some (.slice A k d)) (some (.slice A' k' d'))) : Blk W b 45 #[.string ⟨#[]⟩,.int .i64 0,.int .i64 0,.int .i64 0,.slice none 0 0] ∧
  Below w0.heap.size w0 (setM W b p m x.dep x.day (.slice A k d)) ∧ Blk (setM W b p m x.dep x.day (.slice A k d)) c 45 #[.string ⟨#[]⟩,.int .i64 0,.int .i64 0,.int .i64 0,.slice none 0 0] ∧ MbQ w0 x p m (.pointer (some ⟨b,0,none⟩)) (.pointer (some ⟨c,0,none⟩)) (setM (setM W b p m x.dep x.day (.slice A k d)) c p m x.dep x.day (.slice A' k' d')):=by
 obtain ⟨h0b,hb⟩:=h.b8 b rfl
 obtain ⟨h0c,hc⟩:=h.b9 c rfl
 have hne:b ≠ c:=fun e => h.ne b rfl (by rw [e])
 obtain ⟨hb5,hg5⟩:=mem_set (p:=p) (m:=m) (d:=x.dep) (y:=x.day) (v:=.slice A k d) hb
 have hc5:=(hg5.block c hc.lt (Ne.symm hne)).trans hc
 have hc5:Blk (setM W b p m x.dep x.day (.slice A k d)) c 45 #[.string ⟨#[]⟩,.int .i64 0,.int .i64 0,.int .i64 0,.slice none 0 0]:=hc5
 obtain ⟨hc6,hg6⟩:=mem_set (p:=p) (m:=m) (d:=x.dep) (y:=x.day) (v:=.slice A' k' d') hc5
 have hB:=h.bel
 have hs:=hB.size
 have z5:=hg5.size
 have z6:=hg6.size
 have kp:∀ q,q ≠ b → q ≠ c → q < W.heap.size → (setM (setM W b p m x.dep x.day (.slice A k d)) c p m x.dep x.day (.slice A' k' d')).heap[q]?=W.heap[q]?:=fun q h1 h2 h3 => (hg6.block q (by omega) h2).trans (hg5.block q h3 h1)
 have dq:∀ q,(q < W.heap.size ∧ some b ≠ some q ∧ some c ≠ some q) → q ≠ b ∧ q ≠ c ∧ q < W.heap.size:=fun q hq => ⟨fun e => hq.2.1 (by rw [e]),fun e => hq.2.2 (by rw [e]),hq.1⟩
 refine ⟨hb,⟨hg5.os.trans hB.os,hg5.tape.trans hB.tape,hg5.output.trans hB.output,by omega,fun q hq => (hg5.block q (by omega) (by omega)).trans (hB.block q hq)⟩,hc5,b,c,A,k,d,A',k',d',rfl,rfl,(hg6.block b (by have:=hb.lt; omega) hne).trans hb5,hc6,((h.a1 _ rfl).keep fun q hq => kp q (dq q hq).1 (dq q hq).2.1 hq.1).mono fun q hq => Nat.lt_of_lt_of_le hq.1 (by omega),((h.a2 _ rfl).keep fun q hq => kp q (dq q hq).1 (dq q hq).2.1 hq.1).mono fun q hq => Nat.lt_of_lt_of_le hq.1 (by omega),?_⟩
 exact ⟨hg6.os.trans (hg5.os.trans hB.os),hg6.tape.trans (hg5.tape.trans hB.tape),hg6.output.trans (hg5.output.trans hB.output),by omega,fun q hq => (kp q (by omega) (by omega) (by omega)).trans (hB.block q hq)⟩
end
theorem MbQ.bel {w0 W : World} {x : Stm} {p : ByteArray} {m : Int} {p1 p2 : Value} (h : MbQ w0 x p m p1 p2 W) : Below w0.heap.size w0 W := by
 obtain ⟨_,_,_,_,_,_,_,_,_,_,_,_,_,_,hb⟩:=h
 exact hb
def w12 : List ByteArray := [⟨#[119,111,114,100,115]⟩,⟨#[97,99,116,115]⟩,⟨#[97,32,116,101,120,116]⟩,⟨#[55]⟩,⟨#[45,49]⟩,⟨#[43,55]⟩,⟨#[48,55]⟩,⟨#[57,50,50,51,51,55,50,48,51,54,56,53,52,55,55,53,56,48,56]⟩,⟨#[45,57,50,50,51,51,55,50,48,51,54,56,53,52,55,55,53,56,48,56]⟩,⟨#[50,48,48,48,45,48,49,45,48,49]⟩,⟨#[50,48,48,48,45,49,45,49]⟩,⟨#[]⟩]
set_option maxRecDepth 100000 in
set_option maxHeartbeats 400000 in
theorem sl_heavy (A : Option Addr) (n c : Nat) (s : Stm) (Aa : Option Addr) (na ca : Nat) (Ac : Option Addr) (nc cc : Nat) (As : Option Addr) (ns cs : Nat) (role name text : ByteArray) (m : Int) (w : World) (hl : ParOk w) (hn : n ≤ 9223372036854775807) (h5 : ¬ n ≤ 500) :
  Calls Tryz.prog 3 #[.slice A n c,.agg #[.string s.resp,.int .i64 s.dep,.int .i64 s.day,.slice Aa na ca,.slice Ac nc cc,.slice As ns cs],.string role,.string name,.string text,.int .i64 m] w (AwkO w):=by
 have hb0:=below_al' w (.cells #[.string s.resp,.int .i64 s.dep,.int .i64 s.day,.slice Aa na ca,.slice Ac nc cc,.slice As ns cs] 29)
 have HB0:=Lib.hid hb0
 have HL:=Lib.hid (hl.later hb0)
 clear hl hb0
 go_enter Tryz.func3,Tryz.ntmps3
 go_wp2_with fail
 refine (ckl_F A n c _ hn h5).mono ?_
 rintro e w1 ⟨rfl,rfl⟩
 go_wp2_with fail
 refine (aw_awake _ HL.out).mono ?_
 rintro e w2 ⟨rfl,hb2⟩
 have HB2:=Lib.hid (HB0.out.trans (hb2.mono HB0.out.size))
 clear hb2
 go_wp2_with fail
 go_ret
 exact ⟨rfl,HB2.out⟩
set_option maxRecDepth 100000 in
set_option maxHeartbeats 8000000 in
theorem sl_light (A : Option Addr) (n c : Nat) (s : Stm) (Aa : Option Addr) (na ca : Nat) (Ac : Option Addr) (nc cc : Nat) (As : Option Addr) (ns cs : Nat) (role name text : ByteArray) (m : Int) (w : World) (hl : ParOk w) (hsp : SpcOk w) (hn : n ≤ 9223372036854775807) (h5 : n ≤ 500) (har : ArgL w (.slice A n c))
  (hS:StmAt w (· < w.heap.size) (.slice Aa na ca) (.slice Ac nc cc) (.slice As ns cs) s) (hw:StmWide s) (hz:StmSz s) (z1:role.size ≤ 140737488355328) (z2:name.size ≤ 140737488355328) (z3:text.size ≤ 140737488355328) :
  Calls Tryz.prog 3 #[.slice A n c,.agg #[.string s.resp,.int .i64 s.dep,.int .i64 s.day,.slice Aa na ca,.slice Ac nc cc,.slice As ns cs],.string role,.string name,.string text,.int .i64 m] w (AwkO w):=by
 have hmx:Tryz.prog.follows .mixedOrders=true:=by kernel_rfl
 have hb0:=below_al' w (.cells #[.string s.resp,.int .i64 s.dep,.int .i64 s.day,.slice Aa na ca,.slice Ac nc cc,.slice As ns cs] 29)
 have hr0:=Blk.new w 29 #[.string s.resp,.int .i64 s.dep,.int .i64 s.day,.slice Aa na ca,.slice Ac nc cc,.slice As ns cs]
 have hS0:StmAt (w.alloc (.cells #[.string s.resp,.int .i64 s.dep,.int .i64 s.day,.slice Aa na ca,.slice Ac nc cc,.slice As ns cs] 29)) (· < (w.alloc (.cells #[.string s.resp,.int .i64 s.dep,.int .i64 s.day,.slice Aa na ca,.slice Ac nc cc,.slice As ns cs] 29)).heap.size) (.slice Aa na ca) (.slice Ac nc cc) (.slice As ns cs) s:=(hS.keep fun b hB => hb0.block b hB).mono fun b hB => Nat.lt_of_lt_of_le hB hb0.size
 have lib:∀ W,Below w.heap.size w W → ParOk W ∧ SpcOk W:=fun W hW => ⟨hl.later hW,spc_below hsp (by have:=hl.lib.size; show 0 < _; omega) hW⟩
 have HLB:=Lib.hid lib
 have HB0:=Lib.hid hb0
 have HR0:=Lib.hid hr0
 have HS0:=Lib.hid hS0
 have HSI:=Lib.hid hS
 have HAR:=Lib.hid har
 have HSM:=Lib.hid (s_small s Aa na ca Ac nc cc As ns cs _ hS0 hw hz)
 have HWD:=Lib.hid hw
 have q1:=Go.IntWalk.wrap64_in ((role.size:Int)+(name.size:Int)) (by omega)
 have q2:=Go.IntWalk.wrap64_in ((role.size:Int)+(name.size:Int)+(text.size:Int)) (by omega)
 clear hl hsp har hS hw hz hb0 hr0 hS0 lib
 go_enter Tryz.func3,Tryz.ntmps3
 go_wp2_with fail
 refine (ckl_T A n c _ hn h5).mono ?_
 rintro e w1 ⟨rfl,rfl⟩
 go_wp2_with fail
 refine HSM.out.mono ?_
 rintro e w2 ⟨rfl,hb2⟩
 have hB2:=HB0.out.trans (hb2.mono HB0.out.size)
 have HB2:=Lib.hid hB2
 have HR2:=Lib.hid (HR0.out.below' hb2 HR0.out.lt)
 clear hb2 hB2 HSM HS0
 cases hsm:smallS s
 ·go_wp2_with fail
  refine (aw_awake _ (HLB.out _ HB2.out).1).mono ?_
  rintro e w3 ⟨rfl,hb3⟩
  have HB3:=Lib.hid (HB2.out.trans (hb3.mono HB2.out.size))
  clear hb3
  go_wp2_with fail
  go_ret
  exact ⟨rfl,HB3.out⟩
 obtain ⟨hsok,hs30⟩:=smallS_ok hsm HWD.out
 have HOKR:=Lib.hid hsok
 clear hsok hs30 hsm
 by_cases h300:role.size+name.size+text.size ≤ 300
 case neg =>
  have y3:(300:Int) < (role.size:Int)+(name.size:Int)+(text.size:Int):=by omega
  go_wp2_with fail
  refine (aw_awake _ (HLB.out _ HB2.out).1).mono ?_
  rintro e w3 ⟨rfl,hb3⟩
  have HB3:=Lib.hid (HB2.out.trans (hb3.mono HB2.out.size))
  clear hb3
  go_wp2_with fail
  go_ret
  exact ⟨rfl,HB3.out⟩
 have y3:¬ (300:Int) < (role.size:Int)+(name.size:Int)+(text.size:Int):=by omega
 have ht1000:text.size ≤ 1000:=by omega
 go_wp2_with fail
 clear y3 z1 z2 z3 q1 q2
 refine (k_Roll _ _ (HAR.out.below2 HB2.out)).mono ?_
 rintro e w3 ⟨rfl,hd3,hb3⟩
 have hB3:=HB2.out.trans (hb3.mono HB2.out.size)
 have hr3:=HR2.out.below' hb3 HR2.out.lt
 have hdl:=HR2.out.lt
 have hdr:=hd3.lt
 obtain ⟨db,hdb⟩:∃ db,w2.heap.size=db:=⟨_,rfl⟩
 rw [hdb] at hd3 hb3 hdl hdr ⊢
 have hRaw:LsS w3 db w.heap.size (.slice Aa na ca) (.slice Ac nc cc) (.slice As ns cs) s:=⟨hr3,by omega,(HSI.out.keep fun b hb => hB3.block b hb).mono fun b hb => ⟨by omega,by have:=hB3.size; omega⟩⟩
 have HRW:=Lib.hid hRaw
 have HBR:=Lib.hid hB3
 have HDR:=Lib.hid hd3
 clear hB3 hr3 hd3 hb3 hdb HB2 HR2 HB0 HR0 hRaw
 go_wp2_with fail
 refine (k_Form db w3 HDR.out).mono ?_
 rintro e w4 ⟨t,Af,nf,cf,Lf,rfl,hF,htz,hlf,hsf,hd4,hg4⟩
 have hz4:=hg4.size
 have hF4:FldsAt w4 (fun b => b ≠ db ∧ b < w4.heap.size) (.slice Af nf cf) Lf:=hF.mono fun b hb => ⟨by omega,hb.2⟩
 have hlt4:=hd4.lt
 have f4:=LwF.new (t:=t) hlt4 hF4
 have r4:=(HRW.out.step hg4).alloc (.cells #[.string t,.slice Af nf cf] 37)
 have d4:=hd4.alloc (.cells #[.string t,.slice Af nf cf] 37)
 have b4:=(HBR.out.grown hg4 (by omega) (fun g hg => by injection hg; omega)).alloc (by have:=HBR.out.size; omega) (.cells #[.string t,.slice Af nf cf] 37)
 have hst:=k_Statement db t Af nf cf Lf _ d4 f4.at_ (by omega) (fun k hk => Nat.le_trans (hsf k hk).1 (by omega))
 have HST:=Lib.hid hst
 have HFO:=Lib.hid (And.intro (show FormOk t Lf from ⟨by omega,by omega,fun k hk => (hsf k hk).ok⟩) (fld_all (P:=fun f => f.name.size ≤ maxLen ∧ f.opts.length ≤ 1000000) (fun k hk => ⟨by have:=(hsf k hk).1; unfold maxLen; omega,by have:=(hsf k hk).2.1; omega⟩)))
 clear hF hF4 htz hlf hsf hd4 hg4 hst
 have hzz:(w4.alloc (.cells #[.string t,.slice Af nf cf] 37)).heap.size=w4.heap.size+1:=World.size_alloc _ _
 go_upto_region 5 with fail
 generalize w4.alloc (.cells #[.string t,.slice Af nf cf] 37)=w5 at f4 r4 d4 b4 HST hzz ⊢
 obtain ⟨fb,hfb⟩:∃ fb,w4.heap.size=fb:=⟨_,rfl⟩
 rw [hfb] at f4
 try rw [hfb]
 have K5:=Lib.hid (And.intro f4 (And.intro r4 (And.intro d4 b4)))
 have g0:=(f4.blk.cell 0).trans (show _=some (Value.string t) from rfl)
 have g1:=(f4.blk.cell 1).trans (show _=some (Value.slice Af nf cf) from rfl)
 clear f4 r4 d4 b4 hfb HRW HBR HDR
 go_wp2_with fail
 refine HST.out.mono ?_
 rintro e w6 ⟨x1,A1,n1,c1,B1,m1,d1,C1,k1,e1,rfl,hS1,hm1,hd6,hg6⟩
 have hz6:=hg6.size
 have hlt6:=hd6.lt
 have hdw5:=K5.out.2.2.1.lt
 have x1n:=LsS.new hlt6 (hS1.mono fun b hb => ⟨by omega,hb.2⟩)
 have f6:=(K5.out.1.step hg6).alloc (.cells #[.string x1.resp,.int .i64 x1.dep,.int .i64 x1.day,.slice A1 n1 c1,.slice B1 m1 d1,.slice C1 k1 e1] 29)
 have r6:=(K5.out.2.1.step hg6).alloc (.cells #[.string x1.resp,.int .i64 x1.dep,.int .i64 x1.day,.slice A1 n1 c1,.slice B1 m1 d1,.slice C1 k1 e1] 29)
 have d6:=hd6.alloc (.cells #[.string x1.resp,.int .i64 x1.dep,.int .i64 x1.day,.slice A1 n1 c1,.slice B1 m1 d1,.slice C1 k1 e1] 29)
 have b6:=(K5.out.2.2.2.grown hg6 (by omega) (fun g hg => by injection hg; omega)).alloc (by have:=K5.out.2.2.2.size; omega) (.cells #[.string x1.resp,.int .i64 x1.dep,.int .i64 x1.day,.slice A1 n1 c1,.slice B1 m1 d1,.slice C1 k1 e1] 29)
 have HM1:=Lib.hid hm1.ok
 clear hS1 hm1 hd6 hg6 HST g0 g1 K5
 go_upto_region 6 with fail
 generalize w6.alloc (.cells #[.string x1.resp,.int .i64 x1.dep,.int .i64 x1.day,.slice A1 n1 c1,.slice B1 m1 d1,.slice C1 k1 e1] 29)=w7 at x1n f6 r6 d6 b6 ⊢
 obtain ⟨sb,hsb⟩:∃ sb,w6.heap.size=sb:=⟨_,rfl⟩
 rw [hsb] at x1n
 try rw [hsb]
 have K7:=Lib.hid (And.intro f6 (And.intro r6 (And.intro d6 (And.intro b6 x1n))))
 have p0:=(x1n.blk.cell 0).trans (show _=some (Value.string x1.resp) from rfl)
 have p1:=(x1n.blk.cell 1).trans (show _=some (Value.int .i64 x1.dep) from rfl)
 have p2:=(x1n.blk.cell 2).trans (show _=some (Value.int .i64 x1.day) from rfl)
 have p3:=(x1n.blk.cell 3).trans (show _=some (Value.slice A1 n1 c1) from rfl)
 have p4:=(x1n.blk.cell 4).trans (show _=some (Value.slice B1 m1 d1) from rfl)
 have p5:=(x1n.blk.cell 5).trans (show _=some (Value.slice C1 k1 e1) from rfl)
 have q0:=(r6.blk.cell 0).trans (show _=some (Value.string s.resp) from rfl)
 have q1:=(r6.blk.cell 1).trans (show _=some (Value.int .i64 s.dep) from rfl)
 have q2:=(r6.blk.cell 2).trans (show _=some (Value.int .i64 s.day) from rfl)
 have q3:=(r6.blk.cell 3).trans (show _=some (Value.slice Aa na ca) from rfl)
 have q4:=(r6.blk.cell 4).trans (show _=some (Value.slice Ac nc cc) from rfl)
 have q5:=(r6.blk.cell 5).trans (show _=some (Value.slice As ns cs) from rfl)
 clear f6 r6 d6 b6 x1n hsb
 have hgL:=World.grownBy_alloc w7 (.cells #[.string x1.resp,.int .i64 x1.dep,.int .i64 x1.day,.slice A1 n1 c1,.slice B1 m1 d1,.slice C1 k1 e1,.string s.resp,.int .i64 s.dep,.int .i64 s.day,.slice Aa na ca,.slice Ac nc cc,.slice As ns cs] 29) (some db)
 have KL:=Lib.hid (And.intro (K7.out.1.step hgL) (And.intro (K7.out.2.1.step hgL) (And.intro (K7.out.2.2.1.alloc (.cells #[.string x1.resp,.int .i64 x1.dep,.int .i64 x1.day,.slice A1 n1 c1,.slice B1 m1 d1,.slice C1 k1 e1,.string s.resp,.int .i64 s.dep,.int .i64 s.day,.slice Aa na ca,.slice Ac nc cc,.slice As ns cs] 29)) (And.intro (K7.out.2.2.2.1.alloc K7.out.2.2.2.1.size (.cells #[.string x1.resp,.int .i64 x1.dep,.int .i64 x1.day,.slice A1 n1 c1,.slice B1 m1 d1,.slice C1 k1 e1,.string s.resp,.int .i64 s.dep,.int .i64 s.day,.slice Aa na ca,.slice Ac nc cc,.slice As ns cs] 29)) (And.intro (K7.out.2.2.2.2.step hgL) (Blk.new w7 29 #[.string x1.resp,.int .i64 x1.dep,.int .i64 x1.day,.slice A1 n1 c1,.slice B1 m1 d1,.slice C1 k1 e1,.string s.resp,.int .i64 s.dep,.int .i64 s.day,.slice Aa na ca,.slice Ac nc cc,.slice As ns cs]))))))
 go_wp2_with fail
 generalize w7.alloc (.cells #[.string x1.resp,.int .i64 x1.dep,.int .i64 x1.day,.slice A1 n1 c1,.slice B1 m1 d1,.slice C1 k1 e1,.string s.resp,.int .i64 s.dep,.int .i64 s.day,.slice Aa na ca,.slice Ac nc cc,.slice As ns cs] 29)=wL at KL ⊢
 obtain ⟨qb,hqb⟩:∃ qb,w7.heap.size=qb:=⟨_,rfl⟩
 rw [hqb] at KL
 try rw [hqb]
 clear hgL hqb K7 p0 p1 p2 p3 p4 p5 q0 q1 q2 q3 q4 q5
 have hXS:∀ i:Nat,i < 2 → ∃ (x:Stm) (Ax:Option Addr) (nx cx:Nat) (Bx:Option Addr) (mx dx:Nat) (Cx:Option Addr) (kx ex:Nat),wL.cell? ⟨qb,i*6,none⟩=some (.string x.resp) ∧ wL.cell? ⟨qb,i*6+1,none⟩=some (.int .i64 x.dep) ∧ wL.cell? ⟨qb,i*6+2,none⟩=some (.int .i64 x.day) ∧ wL.cell? ⟨qb,i*6+3,none⟩=some (.slice Ax nx cx) ∧ wL.cell? ⟨qb,i*6+4,none⟩=some (.slice Bx mx dx) ∧ wL.cell? ⟨qb,i*6+5,none⟩=some (.slice Cx kx ex) ∧ StmAt wL (· < wL.heap.size) (.slice Ax nx cx) (.slice Bx mx dx) (.slice Cx kx ex) x ∧ StmOk x:=fun i hi => by
  obtain ⟨-,hR,-,-,hX1,hq⟩:=KL.out
  have h4:i=0 ∨ i=1:=by omega
  rcases h4 with rfl | rfl
  ·exact ⟨x1,A1,n1,c1,B1,m1,d1,C1,k1,e1,(hq.cell 0).trans rfl,(hq.cell 1).trans rfl,(hq.cell 2).trans rfl,(hq.cell 3).trans rfl,(hq.cell 4).trans rfl,(hq.cell 5).trans rfl,hX1.at_.mono fun b hb => hb.2,HM1.out⟩
  ·exact ⟨s,Aa,na,ca,Ac,nc,cc,As,ns,cs,(hq.cell 6).trans rfl,(hq.cell 7).trans rfl,(hq.cell 8).trans rfl,(hq.cell 9).trans rfl,(hq.cell 10).trans rfl,(hq.cell 11).trans rfl,hR.at_.mono fun b hb => hb.2,HOKR.out⟩
 have HXS:=Lib.hid hXS
 have HQB:=Lib.hid (show qb < wL.heap.size from KL.out.2.2.2.2.2.lt)
 have hBL:=KL.out.2.2.2.1
 have HBL:=Lib.hid hBL
 have HFD:=Lib.hid (And.intro KL.out.1 KL.out.2.2.1)
 clear hXS KL HM1 HOKR hBL
 go_loopw [61] (fun v61 wr => ∃ i:Nat,i ≤ 2 ∧ v61=.int .i64 (i:Int) ∧ Below wL.heap.size wL wr) (fun v61 _ => 2 - (intOf v61).toNat)
 case atStart => exact ⟨0,by omega,rfl,Below.refl _ _⟩
 case round =>
  obtain ⟨i,hi,rfl,hbi⟩:=hrel
  rename World => wi
  have HBI:=Lib.hid hbi
  clear hbi
  by_cases hlt:i < 2
  ·obtain ⟨x,Ax,nx,cx,Bx,mx,dx,Cx,kx,ex,q0,q1,q2,q3,q4,q5,hxa,hxo⟩:=HXS.out i hlt
   have e0:=(HBI.out.cell (p:=⟨qb,i*6,none⟩) HQB.out).trans q0
   have e1:=(HBI.out.cell (p:=⟨qb,i*6+1,none⟩) HQB.out).trans q1
   have e2:=(HBI.out.cell (p:=⟨qb,i*6+2,none⟩) HQB.out).trans q2
   have e3:=(HBI.out.cell (p:=⟨qb,i*6+3,none⟩) HQB.out).trans q3
   have e4:=(HBI.out.cell (p:=⟨qb,i*6+4,none⟩) HQB.out).trans q4
   have e5:=(HBI.out.cell (p:=⟨qb,i*6+5,none⟩) HQB.out).trans q5
   have zi:(i:Int) < 2:=by omega
   have z0:(0:Int) ≤ (i:Int):=by omega
   have hbz:=HBI.out.alloc HBI.out.size (.cells #[.string x.resp,.int .i64 x.dep,.int .i64 x.day,.slice Ax nx cx,.slice Bx mx dx,.slice Cx kx ex] 29)
   have hxz:=Blk.new wi 29 #[.string x.resp,.int .i64 x.dep,.int .i64 x.day,.slice Ax nx cx,.slice Bx mx dx,.slice Cx kx ex]
   clear q0 q1 q2 q3 q4 q5
   go_upto_region 9 with fail
   generalize wi.alloc (.cells #[.string x.resp,.int .i64 x.dep,.int .i64 x.day,.slice Ax nx cx,.slice Bx mx dx,.slice Cx kx ex] 29)=wz at hbz hxz ⊢
   obtain ⟨xb,hxb⟩:∃ xb,wi.heap.size=xb:=⟨_,rfl⟩
   rw [hxb] at hxz
   try rw [hxb]
   clear e0 e1 e2 e3 e4 e5 hxb
   have hby:=hbz.alloc hbz.size (.cells #[.string role,.string ⟨#[99,111,117,110,115,101,108,108,111,114]⟩,.string ⟨#[98,111,97,114,100]⟩] 9)
   have hxy:=hxz.alloc (.cells #[.string role,.string ⟨#[99,111,117,110,115,101,108,108,111,114]⟩,.string ⟨#[98,111,97,114,100]⟩] 9)
   have hry:=Blk.new wz 9 #[.string role,.string ⟨#[99,111,117,110,115,101,108,108,111,114]⟩,.string ⟨#[98,111,97,114,100]⟩]
   go_wp2_with fail
   generalize wz.alloc (.cells #[.string role,.string ⟨#[99,111,117,110,115,101,108,108,111,114]⟩,.string ⟨#[98,111,97,114,100]⟩] 9)=wy at hby hxy hry ⊢
   obtain ⟨rb,hrb⟩:∃ rb,wz.heap.size=rb:=⟨_,rfl⟩
   rw [hrb] at hry
   try rw [hrb]
   have up:∀ W,Below wy.heap.size wy W → StmAt W (· < W.heap.size) (.slice Ax nx cx) (.slice Bx mx dx) (.slice Cx kx ex) x:=fun W hW => by
    have h1:=hby.trans (hW.mono hby.size)
    exact (hxa.keep fun b hB => h1.block b hB).mono fun b hB => Nat.lt_of_lt_of_le hB h1.size
   have held:∀ W,Below wy.heap.size wy W → W.cell? ⟨xb,0,none⟩=some (.string x.resp) ∧ W.cell? ⟨xb,1,none⟩=some (.int .i64 x.dep) ∧ W.cell? ⟨xb,2,none⟩=some (.int .i64 x.day) ∧ W.cell? ⟨xb,3,none⟩=some (.slice Ax nx cx) ∧ W.cell? ⟨xb,4,none⟩=some (.slice Bx mx dx) ∧ W.cell? ⟨xb,5,none⟩=some (.slice Cx kx ex):=fun W hW => by
    have hx:=hxy.below' hW hxy.lt
    exact ⟨(hx.cell 0).trans rfl,(hx.cell 1).trans rfl,(hx.cell 2).trans rfl,(hx.cell 3).trans rfl,(hx.cell 4).trans rfl,(hx.cell 5).trans rfl⟩
   have roles:∀ j,j < 3 → ∃ r,wy.cell? ⟨rb,j,none⟩=some (.string r):=fun j hj => by
    have h3:j=0 ∨ j=1 ∨ j=2:=by omega
    rcases h3 with rfl | rfl | rfl
    ·exact ⟨_,(hry.cell 0).trans rfl⟩
    ·exact ⟨_,(hry.cell 1).trans rfl⟩
    ·exact ⟨_,(hry.cell 2).trans rfl⟩
   have HUP:=Lib.hid up
   have HHD:=Lib.hid held
   have HRO:=Lib.hid roles
   have HBY:=Lib.hid hby
   have HXO:=Lib.hid hxo
   have HRB:=Lib.hid (show rb < wy.heap.size from hry.lt)
   clear up held roles hbz hxz hby hxy hry hxa hxo hrb
   go_loopw [68] (fun v68 wj => ∃ j:Nat,j ≤ 3 ∧ v68=.int .i64 (j:Int) ∧ Below wy.heap.size wy wj) (fun v68 _ => 3 - (intOf v68).toNat)
   case atStart => exact ⟨0,by omega,rfl,Below.refl _ _⟩
   case round =>
    obtain ⟨j,hj,rfl,hbj⟩:=hrel
    rename World => wj
    have HBJ:=Lib.hid hbj
    clear hbj
    by_cases hlt3:j < 3
    ·obtain ⟨r,hr⟩:=HRO.out j hlt3
     have e0:=(HBJ.out.cell (p:=⟨rb,j,none⟩) HRB.out).trans hr
     have zj:(j:Int) < 3:=by omega
     have z0j:(0:Int) ≤ (j:Int):=by omega
     clear hr
     go_upto_region 12 with fail
     clear e0
     have B_0:Hid (Below wy.heap.size wy wj.drew):=Lib.hid HBJ.out.drew
     refine wp_region_held_drew (S:=fun W => W.cell? ⟨xb,0,none⟩=some (.string x.resp) ∧ W.cell? ⟨xb,1,none⟩=some (.int .i64 x.dep) ∧ W.cell? ⟨xb,2,none⟩=some (.int .i64 x.day) ∧ W.cell? ⟨xb,3,none⟩=some (.slice Ax nx cx) ∧ W.cell? ⟨xb,4,none⟩=some (.slice Bx mx dx) ∧ W.cell? ⟨xb,5,none⟩=some (.slice Cx kx ex)) hmx (HHD.out _ B_0.out) (fun hHeld => ?_)
     generalize wj.drew=y0 at hHeld B_0 ⊢
     refine t1 0 rfl ?_
     try simp only [pt]
     refine t1 1 rfl ?_
     try simp only [pt]
     refine t1 3 rfl ?_
     try simp only [pt]
     refine t1 4 rfl ?_
     try simp only [pt]
     refine rd1 2 (by kernel_rfl) rfl (fun Kc hKc => ?_)
     go_simp
     refine (v_Visible x r (.slice Ax nx cx) (.slice Bx mx dx) (.slice Cx kx ex) y0 (HUP.out _ B_0.out) HXO.out).mono ?_
     rintro e y1 ⟨V1,w1,u1,rfl,ha1,hb1⟩
     have HA1:=Lib.hid ha1
     have B_1:=Lib.hid (B_0.out.trans (hb1.mono B_0.out.size))
     have Z1:=Lib.hid hb1.size
     clear ha1 hb1
     refine hKc.out _ _ (HHD.out _ B_1.out) (fun hHeld => ?_)
     clear hKc Kc
     try simp only [pt]
     refine rd1 5 (by kernel_rfl) rfl (fun Kc hKc => ?_)
     go_simp
     refine (r_Visible x r (.slice Ax nx cx) (.slice Bx mx dx) (.slice Cx kx ex) y1 (HUP.out _ B_1.out) HXO.out).mono ?_
     rintro e y2 ⟨V2,w2',u2,rfl,ha2,hb2⟩
     have HA2:=Lib.hid ha2
     have HA1:=Lib.hid (HA1.out.keep fun q hq => hb2.block q hq.2)
     have B_2:=Lib.hid (B_1.out.trans (hb2.mono B_1.out.size))
     have Z2:=Lib.hid hb2.size
     clear ha2 hb2
     refine hKc.out _ _ (HHD.out _ B_2.out) (fun hHeld => ?_)
     clear hKc Kc
     try simp only [pt]
     refine rd1 6 (by kernel_rfl) rfl (fun Kc hKc => ?_)
     go_simp
     refine (Calls.mono (r_SameS (visS x r) (visS x r) V1 none none V2 none none w1 u1 0 0 0 0 w2' u2 0 0 0 0 y2 (vis_at (HA1.out.mono fun q hq => Nat.lt_of_lt_of_le hq.2 Z2.out)) (vis_at (HA2.out.mono fun q hq => hq.2)) (visS_ok HXO.out r) (visS_ok HXO.out r)) (fun _ _ h => h.d)).mono ?_
     rintro e y3 ⟨rfl,hb3⟩
     rw [eqD_self]
     have B_3:=Lib.hid (B_2.out.trans (hb3.mono B_2.out.size))
     clear hb3
     refine hKc.out _ _ (HHD.out _ B_3.out) (fun hHeld => ?_)
     clear hKc Kc
     try simp only [pt]
     refine t1 7 rfl ?_
     try simp only [pt]
     refine wpAnyH_done (by kernel_rfl) ?_ _
     go_wp2_with fail
     go_roundw
     case measure => simp [intOf]; omega
     case rel => exact ⟨j+1,by omega,by go_num,B_3.out⟩
    ·have zj:¬ (j:Int) < 3:=by omega
     go_upto_region 15 with fail
     have C_0:Hid (Below wy.heap.size wy wj.drew):=Lib.hid HBJ.out.drew
     go_cut [20,21] from 81 to 88 (fun v20 v21 wx => MbQ wy x role m v20 v21 wx)
     case first =>
      refine wp_region_held_drew (S:=fun W => W.cell? ⟨xb,0,none⟩=some (.string x.resp) ∧ W.cell? ⟨xb,1,none⟩=some (.int .i64 x.dep) ∧ W.cell? ⟨xb,2,none⟩=some (.int .i64 x.day) ∧ W.cell? ⟨xb,3,none⟩=some (.slice Ax nx cx) ∧ W.cell? ⟨xb,4,none⟩=some (.slice Bx mx dx) ∧ W.cell? ⟨xb,5,none⟩=some (.slice Cx kx ex)) hmx (HHD.out _ C_0.out) (fun hHeld => ?_)
      generalize wj.drew=u at hHeld C_0 ⊢
      have HM1:=Lib.hid (fun W hW => s_Member x role m _ _ _ W (HUP.out W hW) HXO.out.an)
      have HM2:=Lib.hid (fun W hW => r_Member x role m _ _ _ W (HUP.out W hW) HXO.out.an)
      have H:=Lib.hid (show MS wy u x none none none none from ⟨C_0.out,fun _ e => (by cases e),fun _ e => (by cases e),fun _ e => (by cases e),fun _ e => (by cases e),fun _ e => (by cases e)⟩)
      refine t1 0 rfl ?_
      try simp only [pt]
      refine t1 1 rfl ?_
      try simp only [pt]
      refine t1 2 rfl ?_
      try simp only [pt]
      refine t1 4 rfl ?_
      try simp only [pt]
      refine t1 5 rfl ?_
      try simp only [pt]
      refine t1 6 rfl ?_
      try simp only [pt]
      refine rd3 3 8 9 (by kernel_rfl) rfl rfl rfl (fun Kc hKc => ?_) (fun Kc hKc => ?_) (fun Kc hKc => ?_)
      ·go_simp
       refine (HM1.out u H.out.bel).mono ?_
       rintro e u ⟨A1',k1',d1',rfl,ha,hb⟩
       have H:=Lib.hid (H.out.ans1 hb ha)
       clear ha hb
       refine hKc.out _ _ (HHD.out _ H.out.bel) (fun hHeld => ?_)
       clear hKc Kc
       try simp only [pt]
       refine rd3 7 8 9 (by kernel_rfl) rfl rfl rfl (fun Kc hKc => ?_) (fun Kc hKc => ?_) (fun Kc hKc => ?_)
       ·go_simp
        refine (HM2.out u H.out.bel).mono ?_
        rintro e u ⟨A2',k2',d2',rfl,ha,hb⟩
        have H:=Lib.hid (H.out.ans2 hb ha)
        clear ha hb
        refine hKc.out _ _ (HHD.out _ H.out.bel) (fun hHeld => ?_)
        clear hKc Kc
        try simp only [pt]
        refine rd2 8 9 (by kernel_rfl) rfl rfl (fun Kc hKc => ?_) (fun Kc hKc => ?_)
        ·refine step_mem (by rfl) (by rfl) ?_
         have H:=Lib.hid H.out.mem8
         refine hKc.out _ _ (HHD.out _ H.out.bel) (fun hHeld => ?_)
         clear hKc Kc
         generalize u.heap.size=b8 at H ⊢
         generalize alM u=u at H hHeld ⊢
         try simp only [pt]
         refine rd1 9 (by kernel_rfl) rfl (fun Kc hKc => ?_)
         ·refine step_mem (by rfl) (by rfl) ?_
          have H:=Lib.hid H.out.mem9
          refine hKc.out _ _ (HHD.out _ H.out.bel) (fun hHeld => ?_)
          clear hKc Kc
          generalize u.heap.size=b9 at H ⊢
          generalize alM u=u at H hHeld ⊢
          try simp only [pt]
          obtain ⟨hb,hl,hc,hg⟩:=MS.fin (p:=role) (m:=m) H.out
          have HG:=Lib.hid hg
          refine rd1 10 (by kernel_rfl) rfl (fun Kc hKc => ?_)
          refine step_mst (by rfl) (by rfl) (by rfl) hb (by rfl) (by rfl) ?_
          refine hKc.out _ _ (HHD.out _ hl) (fun hHeld => ?_)
          clear hKc Kc hb hl hg
          try simp only [pt]
          refine rd1 11 (by kernel_rfl) rfl (fun Kc hKc => ?_)
          refine step_mst (by rfl) (by rfl) (by rfl) hc (by rfl) (by rfl) ?_
          refine hKc.out _ _ (HHD.out _ HG.out.bel) (fun hHeld => ?_)
          clear hKc Kc hc
          try simp only [pt]
          refine wpAnyH_done (by kernel_rfl) ?_ _
          go_wp2_with fail
          go_meet
          with_reducible exact HG.out
        ·refine step_mem (by rfl) (by rfl) ?_
         have H:=Lib.hid H.out.mem9
         refine hKc.out _ _ (HHD.out _ H.out.bel) (fun hHeld => ?_)
         clear hKc Kc
         generalize u.heap.size=b9 at H ⊢
         generalize alM u=u at H hHeld ⊢
         try simp only [pt]
         refine rd1 8 (by kernel_rfl) rfl (fun Kc hKc => ?_)
         ·refine step_mem (by rfl) (by rfl) ?_
          have H:=Lib.hid H.out.mem8
          refine hKc.out _ _ (HHD.out _ H.out.bel) (fun hHeld => ?_)
          clear hKc Kc
          generalize u.heap.size=b8 at H ⊢
          generalize alM u=u at H hHeld ⊢
          try simp only [pt]
          obtain ⟨hb,hl,hc,hg⟩:=MS.fin (p:=role) (m:=m) H.out
          have HG:=Lib.hid hg
          refine rd1 10 (by kernel_rfl) rfl (fun Kc hKc => ?_)
          refine step_mst (by rfl) (by rfl) (by rfl) hb (by rfl) (by rfl) ?_
          refine hKc.out _ _ (HHD.out _ hl) (fun hHeld => ?_)
          clear hKc Kc hb hl hg
          try simp only [pt]
          refine rd1 11 (by kernel_rfl) rfl (fun Kc hKc => ?_)
          refine step_mst (by rfl) (by rfl) (by rfl) hc (by rfl) (by rfl) ?_
          refine hKc.out _ _ (HHD.out _ HG.out.bel) (fun hHeld => ?_)
          clear hKc Kc hc
          try simp only [pt]
          refine wpAnyH_done (by kernel_rfl) ?_ _
          go_wp2_with fail
          go_meet
          with_reducible exact HG.out
       ·refine step_mem (by rfl) (by rfl) ?_
        have H:=Lib.hid H.out.mem8
        refine hKc.out _ _ (HHD.out _ H.out.bel) (fun hHeld => ?_)
        clear hKc Kc
        generalize u.heap.size=b8 at H ⊢
        generalize alM u=u at H hHeld ⊢
        try simp only [pt]
        refine rd2 7 9 (by kernel_rfl) rfl rfl (fun Kc hKc => ?_) (fun Kc hKc => ?_)
        ·go_simp
         refine (HM2.out u H.out.bel).mono ?_
         rintro e u ⟨A2',k2',d2',rfl,ha,hb⟩
         have H:=Lib.hid (H.out.ans2 hb ha)
         clear ha hb
         refine hKc.out _ _ (HHD.out _ H.out.bel) (fun hHeld => ?_)
         clear hKc Kc
         try simp only [pt]
         refine rd1 9 (by kernel_rfl) rfl (fun Kc hKc => ?_)
         ·refine step_mem (by rfl) (by rfl) ?_
          have H:=Lib.hid H.out.mem9
          refine hKc.out _ _ (HHD.out _ H.out.bel) (fun hHeld => ?_)
          clear hKc Kc
          generalize u.heap.size=b9 at H ⊢
          generalize alM u=u at H hHeld ⊢
          try simp only [pt]
          obtain ⟨hb,hl,hc,hg⟩:=MS.fin (p:=role) (m:=m) H.out
          have HG:=Lib.hid hg
          refine rd1 10 (by kernel_rfl) rfl (fun Kc hKc => ?_)
          refine step_mst (by rfl) (by rfl) (by rfl) hb (by rfl) (by rfl) ?_
          refine hKc.out _ _ (HHD.out _ hl) (fun hHeld => ?_)
          clear hKc Kc hb hl hg
          try simp only [pt]
          refine rd1 11 (by kernel_rfl) rfl (fun Kc hKc => ?_)
          refine step_mst (by rfl) (by rfl) (by rfl) hc (by rfl) (by rfl) ?_
          refine hKc.out _ _ (HHD.out _ HG.out.bel) (fun hHeld => ?_)
          clear hKc Kc hc
          try simp only [pt]
          refine wpAnyH_done (by kernel_rfl) ?_ _
          go_wp2_with fail
          go_meet
          with_reducible exact HG.out
        ·refine step_mem (by rfl) (by rfl) ?_
         have H:=Lib.hid H.out.mem9
         refine hKc.out _ _ (HHD.out _ H.out.bel) (fun hHeld => ?_)
         clear hKc Kc
         generalize u.heap.size=b9 at H ⊢
         generalize alM u=u at H hHeld ⊢
         try simp only [pt]
         refine rd1 7 (by kernel_rfl) rfl (fun Kc hKc => ?_)
         ·go_simp
          refine (HM2.out u H.out.bel).mono ?_
          rintro e u ⟨A2',k2',d2',rfl,ha,hb⟩
          have H:=Lib.hid (H.out.ans2 hb ha)
          clear ha hb
          refine hKc.out _ _ (HHD.out _ H.out.bel) (fun hHeld => ?_)
          clear hKc Kc
          try simp only [pt]
          obtain ⟨hb,hl,hc,hg⟩:=MS.fin (p:=role) (m:=m) H.out
          have HG:=Lib.hid hg
          refine rd1 10 (by kernel_rfl) rfl (fun Kc hKc => ?_)
          refine step_mst (by rfl) (by rfl) (by rfl) hb (by rfl) (by rfl) ?_
          refine hKc.out _ _ (HHD.out _ hl) (fun hHeld => ?_)
          clear hKc Kc hb hl hg
          try simp only [pt]
          refine rd1 11 (by kernel_rfl) rfl (fun Kc hKc => ?_)
          refine step_mst (by rfl) (by rfl) (by rfl) hc (by rfl) (by rfl) ?_
          refine hKc.out _ _ (HHD.out _ HG.out.bel) (fun hHeld => ?_)
          clear hKc Kc hc
          try simp only [pt]
          refine wpAnyH_done (by kernel_rfl) ?_ _
          go_wp2_with fail
          go_meet
          with_reducible exact HG.out
       ·refine step_mem (by rfl) (by rfl) ?_
        have H:=Lib.hid H.out.mem9
        refine hKc.out _ _ (HHD.out _ H.out.bel) (fun hHeld => ?_)
        clear hKc Kc
        generalize u.heap.size=b9 at H ⊢
        generalize alM u=u at H hHeld ⊢
        try simp only [pt]
        refine rd2 7 8 (by kernel_rfl) rfl rfl (fun Kc hKc => ?_) (fun Kc hKc => ?_)
        ·go_simp
         refine (HM2.out u H.out.bel).mono ?_
         rintro e u ⟨A2',k2',d2',rfl,ha,hb⟩
         have H:=Lib.hid (H.out.ans2 hb ha)
         clear ha hb
         refine hKc.out _ _ (HHD.out _ H.out.bel) (fun hHeld => ?_)
         clear hKc Kc
         try simp only [pt]
         refine rd1 8 (by kernel_rfl) rfl (fun Kc hKc => ?_)
         ·refine step_mem (by rfl) (by rfl) ?_
          have H:=Lib.hid H.out.mem8
          refine hKc.out _ _ (HHD.out _ H.out.bel) (fun hHeld => ?_)
          clear hKc Kc
          generalize u.heap.size=b8 at H ⊢
          generalize alM u=u at H hHeld ⊢
          try simp only [pt]
          obtain ⟨hb,hl,hc,hg⟩:=MS.fin (p:=role) (m:=m) H.out
          have HG:=Lib.hid hg
          refine rd1 10 (by kernel_rfl) rfl (fun Kc hKc => ?_)
          refine step_mst (by rfl) (by rfl) (by rfl) hb (by rfl) (by rfl) ?_
          refine hKc.out _ _ (HHD.out _ hl) (fun hHeld => ?_)
          clear hKc Kc hb hl hg
          try simp only [pt]
          refine rd1 11 (by kernel_rfl) rfl (fun Kc hKc => ?_)
          refine step_mst (by rfl) (by rfl) (by rfl) hc (by rfl) (by rfl) ?_
          refine hKc.out _ _ (HHD.out _ HG.out.bel) (fun hHeld => ?_)
          clear hKc Kc hc
          try simp only [pt]
          refine wpAnyH_done (by kernel_rfl) ?_ _
          go_wp2_with fail
          go_meet
          with_reducible exact HG.out
        ·refine step_mem (by rfl) (by rfl) ?_
         have H:=Lib.hid H.out.mem8
         refine hKc.out _ _ (HHD.out _ H.out.bel) (fun hHeld => ?_)
         clear hKc Kc
         generalize u.heap.size=b8 at H ⊢
         generalize alM u=u at H hHeld ⊢
         try simp only [pt]
         refine rd1 7 (by kernel_rfl) rfl (fun Kc hKc => ?_)
         ·go_simp
          refine (HM2.out u H.out.bel).mono ?_
          rintro e u ⟨A2',k2',d2',rfl,ha,hb⟩
          have H:=Lib.hid (H.out.ans2 hb ha)
          clear ha hb
          refine hKc.out _ _ (HHD.out _ H.out.bel) (fun hHeld => ?_)
          clear hKc Kc
          try simp only [pt]
          obtain ⟨hb,hl,hc,hg⟩:=MS.fin (p:=role) (m:=m) H.out
          have HG:=Lib.hid hg
          refine rd1 10 (by kernel_rfl) rfl (fun Kc hKc => ?_)
          refine step_mst (by rfl) (by rfl) (by rfl) hb (by rfl) (by rfl) ?_
          refine hKc.out _ _ (HHD.out _ hl) (fun hHeld => ?_)
          clear hKc Kc hb hl hg
          try simp only [pt]
          refine rd1 11 (by kernel_rfl) rfl (fun Kc hKc => ?_)
          refine step_mst (by rfl) (by rfl) (by rfl) hc (by rfl) (by rfl) ?_
          refine hKc.out _ _ (HHD.out _ HG.out.bel) (fun hHeld => ?_)
          clear hKc Kc hc
          try simp only [pt]
          refine wpAnyH_done (by kernel_rfl) ?_ _
          go_wp2_with fail
          go_meet
          with_reducible exact HG.out
      ·refine step_mem (by rfl) (by rfl) ?_
       have H:=Lib.hid H.out.mem8
       refine hKc.out _ _ (HHD.out _ H.out.bel) (fun hHeld => ?_)
       clear hKc Kc
       generalize u.heap.size=b8 at H ⊢
       generalize alM u=u at H hHeld ⊢
       try simp only [pt]
       refine rd2 3 9 (by kernel_rfl) rfl rfl (fun Kc hKc => ?_) (fun Kc hKc => ?_)
       ·go_simp
        refine (HM1.out u H.out.bel).mono ?_
        rintro e u ⟨A1',k1',d1',rfl,ha,hb⟩
        have H:=Lib.hid (H.out.ans1 hb ha)
        clear ha hb
        refine hKc.out _ _ (HHD.out _ H.out.bel) (fun hHeld => ?_)
        clear hKc Kc
        try simp only [pt]
        refine rd2 7 9 (by kernel_rfl) rfl rfl (fun Kc hKc => ?_) (fun Kc hKc => ?_)
        ·go_simp
         refine (HM2.out u H.out.bel).mono ?_
         rintro e u ⟨A2',k2',d2',rfl,ha,hb⟩
         have H:=Lib.hid (H.out.ans2 hb ha)
         clear ha hb
         refine hKc.out _ _ (HHD.out _ H.out.bel) (fun hHeld => ?_)
         clear hKc Kc
         try simp only [pt]
         refine rd1 9 (by kernel_rfl) rfl (fun Kc hKc => ?_)
         ·refine step_mem (by rfl) (by rfl) ?_
          have H:=Lib.hid H.out.mem9
          refine hKc.out _ _ (HHD.out _ H.out.bel) (fun hHeld => ?_)
          clear hKc Kc
          generalize u.heap.size=b9 at H ⊢
          generalize alM u=u at H hHeld ⊢
          try simp only [pt]
          obtain ⟨hb,hl,hc,hg⟩:=MS.fin (p:=role) (m:=m) H.out
          have HG:=Lib.hid hg
          refine rd1 10 (by kernel_rfl) rfl (fun Kc hKc => ?_)
          refine step_mst (by rfl) (by rfl) (by rfl) hb (by rfl) (by rfl) ?_
          refine hKc.out _ _ (HHD.out _ hl) (fun hHeld => ?_)
          clear hKc Kc hb hl hg
          try simp only [pt]
          refine rd1 11 (by kernel_rfl) rfl (fun Kc hKc => ?_)
          refine step_mst (by rfl) (by rfl) (by rfl) hc (by rfl) (by rfl) ?_
          refine hKc.out _ _ (HHD.out _ HG.out.bel) (fun hHeld => ?_)
          clear hKc Kc hc
          try simp only [pt]
          refine wpAnyH_done (by kernel_rfl) ?_ _
          go_wp2_with fail
          go_meet
          with_reducible exact HG.out
        ·refine step_mem (by rfl) (by rfl) ?_
         have H:=Lib.hid H.out.mem9
         refine hKc.out _ _ (HHD.out _ H.out.bel) (fun hHeld => ?_)
         clear hKc Kc
         generalize u.heap.size=b9 at H ⊢
         generalize alM u=u at H hHeld ⊢
         try simp only [pt]
         refine rd1 7 (by kernel_rfl) rfl (fun Kc hKc => ?_)
         ·go_simp
          refine (HM2.out u H.out.bel).mono ?_
          rintro e u ⟨A2',k2',d2',rfl,ha,hb⟩
          have H:=Lib.hid (H.out.ans2 hb ha)
          clear ha hb
          refine hKc.out _ _ (HHD.out _ H.out.bel) (fun hHeld => ?_)
          clear hKc Kc
          try simp only [pt]
          obtain ⟨hb,hl,hc,hg⟩:=MS.fin (p:=role) (m:=m) H.out
          have HG:=Lib.hid hg
          refine rd1 10 (by kernel_rfl) rfl (fun Kc hKc => ?_)
          refine step_mst (by rfl) (by rfl) (by rfl) hb (by rfl) (by rfl) ?_
          refine hKc.out _ _ (HHD.out _ hl) (fun hHeld => ?_)
          clear hKc Kc hb hl hg
          try simp only [pt]
          refine rd1 11 (by kernel_rfl) rfl (fun Kc hKc => ?_)
          refine step_mst (by rfl) (by rfl) (by rfl) hc (by rfl) (by rfl) ?_
          refine hKc.out _ _ (HHD.out _ HG.out.bel) (fun hHeld => ?_)
          clear hKc Kc hc
          try simp only [pt]
          refine wpAnyH_done (by kernel_rfl) ?_ _
          go_wp2_with fail
          go_meet
          with_reducible exact HG.out
       ·refine step_mem (by rfl) (by rfl) ?_
        have H:=Lib.hid H.out.mem9
        refine hKc.out _ _ (HHD.out _ H.out.bel) (fun hHeld => ?_)
        clear hKc Kc
        generalize u.heap.size=b9 at H ⊢
        generalize alM u=u at H hHeld ⊢
        try simp only [pt]
        refine rd1 3 (by kernel_rfl) rfl (fun Kc hKc => ?_)
        ·go_simp
         refine (HM1.out u H.out.bel).mono ?_
         rintro e u ⟨A1',k1',d1',rfl,ha,hb⟩
         have H:=Lib.hid (H.out.ans1 hb ha)
         clear ha hb
         refine hKc.out _ _ (HHD.out _ H.out.bel) (fun hHeld => ?_)
         clear hKc Kc
         try simp only [pt]
         refine rd1 7 (by kernel_rfl) rfl (fun Kc hKc => ?_)
         ·go_simp
          refine (HM2.out u H.out.bel).mono ?_
          rintro e u ⟨A2',k2',d2',rfl,ha,hb⟩
          have H:=Lib.hid (H.out.ans2 hb ha)
          clear ha hb
          refine hKc.out _ _ (HHD.out _ H.out.bel) (fun hHeld => ?_)
          clear hKc Kc
          try simp only [pt]
          obtain ⟨hb,hl,hc,hg⟩:=MS.fin (p:=role) (m:=m) H.out
          have HG:=Lib.hid hg
          refine rd1 10 (by kernel_rfl) rfl (fun Kc hKc => ?_)
          refine step_mst (by rfl) (by rfl) (by rfl) hb (by rfl) (by rfl) ?_
          refine hKc.out _ _ (HHD.out _ hl) (fun hHeld => ?_)
          clear hKc Kc hb hl hg
          try simp only [pt]
          refine rd1 11 (by kernel_rfl) rfl (fun Kc hKc => ?_)
          refine step_mst (by rfl) (by rfl) (by rfl) hc (by rfl) (by rfl) ?_
          refine hKc.out _ _ (HHD.out _ HG.out.bel) (fun hHeld => ?_)
          clear hKc Kc hc
          try simp only [pt]
          refine wpAnyH_done (by kernel_rfl) ?_ _
          go_wp2_with fail
          go_meet
          with_reducible exact HG.out
      ·refine step_mem (by rfl) (by rfl) ?_
       have H:=Lib.hid H.out.mem9
       refine hKc.out _ _ (HHD.out _ H.out.bel) (fun hHeld => ?_)
       clear hKc Kc
       generalize u.heap.size=b9 at H ⊢
       generalize alM u=u at H hHeld ⊢
       try simp only [pt]
       refine rd2 3 8 (by kernel_rfl) rfl rfl (fun Kc hKc => ?_) (fun Kc hKc => ?_)
       ·go_simp
        refine (HM1.out u H.out.bel).mono ?_
        rintro e u ⟨A1',k1',d1',rfl,ha,hb⟩
        have H:=Lib.hid (H.out.ans1 hb ha)
        clear ha hb
        refine hKc.out _ _ (HHD.out _ H.out.bel) (fun hHeld => ?_)
        clear hKc Kc
        try simp only [pt]
        refine rd2 7 8 (by kernel_rfl) rfl rfl (fun Kc hKc => ?_) (fun Kc hKc => ?_)
        ·go_simp
         refine (HM2.out u H.out.bel).mono ?_
         rintro e u ⟨A2',k2',d2',rfl,ha,hb⟩
         have H:=Lib.hid (H.out.ans2 hb ha)
         clear ha hb
         refine hKc.out _ _ (HHD.out _ H.out.bel) (fun hHeld => ?_)
         clear hKc Kc
         try simp only [pt]
         refine rd1 8 (by kernel_rfl) rfl (fun Kc hKc => ?_)
         ·refine step_mem (by rfl) (by rfl) ?_
          have H:=Lib.hid H.out.mem8
          refine hKc.out _ _ (HHD.out _ H.out.bel) (fun hHeld => ?_)
          clear hKc Kc
          generalize u.heap.size=b8 at H ⊢
          generalize alM u=u at H hHeld ⊢
          try simp only [pt]
          obtain ⟨hb,hl,hc,hg⟩:=MS.fin (p:=role) (m:=m) H.out
          have HG:=Lib.hid hg
          refine rd1 10 (by kernel_rfl) rfl (fun Kc hKc => ?_)
          refine step_mst (by rfl) (by rfl) (by rfl) hb (by rfl) (by rfl) ?_
          refine hKc.out _ _ (HHD.out _ hl) (fun hHeld => ?_)
          clear hKc Kc hb hl hg
          try simp only [pt]
          refine rd1 11 (by kernel_rfl) rfl (fun Kc hKc => ?_)
          refine step_mst (by rfl) (by rfl) (by rfl) hc (by rfl) (by rfl) ?_
          refine hKc.out _ _ (HHD.out _ HG.out.bel) (fun hHeld => ?_)
          clear hKc Kc hc
          try simp only [pt]
          refine wpAnyH_done (by kernel_rfl) ?_ _
          go_wp2_with fail
          go_meet
          with_reducible exact HG.out
        ·refine step_mem (by rfl) (by rfl) ?_
         have H:=Lib.hid H.out.mem8
         refine hKc.out _ _ (HHD.out _ H.out.bel) (fun hHeld => ?_)
         clear hKc Kc
         generalize u.heap.size=b8 at H ⊢
         generalize alM u=u at H hHeld ⊢
         try simp only [pt]
         refine rd1 7 (by kernel_rfl) rfl (fun Kc hKc => ?_)
         ·go_simp
          refine (HM2.out u H.out.bel).mono ?_
          rintro e u ⟨A2',k2',d2',rfl,ha,hb⟩
          have H:=Lib.hid (H.out.ans2 hb ha)
          clear ha hb
          refine hKc.out _ _ (HHD.out _ H.out.bel) (fun hHeld => ?_)
          clear hKc Kc
          try simp only [pt]
          obtain ⟨hb,hl,hc,hg⟩:=MS.fin (p:=role) (m:=m) H.out
          have HG:=Lib.hid hg
          refine rd1 10 (by kernel_rfl) rfl (fun Kc hKc => ?_)
          refine step_mst (by rfl) (by rfl) (by rfl) hb (by rfl) (by rfl) ?_
          refine hKc.out _ _ (HHD.out _ hl) (fun hHeld => ?_)
          clear hKc Kc hb hl hg
          try simp only [pt]
          refine rd1 11 (by kernel_rfl) rfl (fun Kc hKc => ?_)
          refine step_mst (by rfl) (by rfl) (by rfl) hc (by rfl) (by rfl) ?_
          refine hKc.out _ _ (HHD.out _ HG.out.bel) (fun hHeld => ?_)
          clear hKc Kc hc
          try simp only [pt]
          refine wpAnyH_done (by kernel_rfl) ?_ _
          go_wp2_with fail
          go_meet
          with_reducible exact HG.out
       ·refine step_mem (by rfl) (by rfl) ?_
        have H:=Lib.hid H.out.mem8
        refine hKc.out _ _ (HHD.out _ H.out.bel) (fun hHeld => ?_)
        clear hKc Kc
        generalize u.heap.size=b8 at H ⊢
        generalize alM u=u at H hHeld ⊢
        try simp only [pt]
        refine rd1 3 (by kernel_rfl) rfl (fun Kc hKc => ?_)
        ·go_simp
         refine (HM1.out u H.out.bel).mono ?_
         rintro e u ⟨A1',k1',d1',rfl,ha,hb⟩
         have H:=Lib.hid (H.out.ans1 hb ha)
         clear ha hb
         refine hKc.out _ _ (HHD.out _ H.out.bel) (fun hHeld => ?_)
         clear hKc Kc
         try simp only [pt]
         refine rd1 7 (by kernel_rfl) rfl (fun Kc hKc => ?_)
         ·go_simp
          refine (HM2.out u H.out.bel).mono ?_
          rintro e u ⟨A2',k2',d2',rfl,ha,hb⟩
          have H:=Lib.hid (H.out.ans2 hb ha)
          clear ha hb
          refine hKc.out _ _ (HHD.out _ H.out.bel) (fun hHeld => ?_)
          clear hKc Kc
          try simp only [pt]
          obtain ⟨hb,hl,hc,hg⟩:=MS.fin (p:=role) (m:=m) H.out
          have HG:=Lib.hid hg
          refine rd1 10 (by kernel_rfl) rfl (fun Kc hKc => ?_)
          refine step_mst (by rfl) (by rfl) (by rfl) hb (by rfl) (by rfl) ?_
          refine hKc.out _ _ (HHD.out _ hl) (fun hHeld => ?_)
          clear hKc Kc hb hl hg
          try simp only [pt]
          refine rd1 11 (by kernel_rfl) rfl (fun Kc hKc => ?_)
          refine step_mst (by rfl) (by rfl) (by rfl) hc (by rfl) (by rfl) ?_
          refine hKc.out _ _ (HHD.out _ HG.out.bel) (fun hHeld => ?_)
          clear hKc Kc hc
          try simp only [pt]
          refine wpAnyH_done (by kernel_rfl) ?_ _
          go_wp2_with fail
          go_meet
          with_reducible exact HG.out
     case rest =>
      rename World => wm
      obtain ⟨b1,b2,V1,w1,u1,V2,w2',u2,rfl,rfl,hb1,hb2,ha1,ha2,hbm⟩:=hcut
      have HMM:=Lib.hid (And.intro ha1 (And.intro ha2 hbm))
      have r0:=(hb1.cell 0).trans (show _=some (Value.string role) from rfl)
      have g0:=(hb2.cell 0).trans (show _=some (Value.string role) from rfl)
      have r1:=(hb1.cell 1).trans (show _=some (Value.int .i64 m) from rfl)
      have g1:=(hb2.cell 1).trans (show _=some (Value.int .i64 m) from rfl)
      have r2:=(hb1.cell 2).trans (show _=some (Value.int .i64 x.dep) from rfl)
      have g2:=(hb2.cell 2).trans (show _=some (Value.int .i64 x.dep) from rfl)
      have r3:=(hb1.cell 3).trans (show _=some (Value.int .i64 x.day) from rfl)
      have g3:=(hb2.cell 3).trans (show _=some (Value.int .i64 x.day) from rfl)
      have r4:=(hb1.cell 4).trans (show _=some (Value.slice V1 w1 u1) from rfl)
      have g4:=(hb2.cell 4).trans (show _=some (Value.slice V2 w2' u2) from rfl)
      have hself:(role.toList != role.toList)=false:=by simp
      clear hb1 hb2 ha1 ha2 hbm
      go_wp2_with fail
      refine (Calls.mono (r_SameAns _ _ x.ans x.ans _ HMM.out.1 HMM.out.2.1 HXO.out.an HXO.out.an) (fun _ _ h => sameB_self h)).mono ?_
      rintro e wn ⟨rfl,hbn⟩
      have HEN:=Lib.hid (HBY.out.trans ((HMM.out.2.2.trans (hbn.mono HMM.out.2.2.size)).mono HBY.out.size))
      clear hbn r0 r1 r2 r3 r4 g0 g1 g2 g3 g4
      go_wp2_with fail
      go_roundw
      case measure => simp [intOf]; omega
      case rel => first | exact ⟨i+1,by omega,by go_num,HEN.out⟩ | ((repeat apply Exists.intro); exact ⟨⟨i+1,by omega,by go_num,HEN.out⟩,rfl⟩)
  ·have zi:¬ (i:Int) < 2:=by omega
   have hBi:=HBL.out.trans (HBI.out.mono HBL.out.size)
   have hfd:=HFD.out
   have hzL:=HBI.out.size
   have hFi:LwF wi db fb t (.slice Af nf cf) Lf:=⟨hfd.1.blk.below' HBI.out hfd.1.blk.lt,hfd.1.ne,(hfd.1.at_.keep fun b hb => HBI.out.block b hb.2).mono fun b hb => ⟨hb.1,Nat.lt_of_lt_of_le hb.2 hzL⟩⟩
   have hDi:Dc wi db:=hfd.2.keep fun q hq => HBI.out.block q (by have:=hfd.2.lt; omega)
   have hN:=Blk.new wi 9 #[.string name,.string ⟨#[119,104,97,116]⟩,.string ⟨#[107,105,110,100]⟩,.string ⟨#[116,105,109,101,115]⟩,.string ⟨#[117,110,116,105,108]⟩]
   have hFn:=hFi.alloc (.cells #[.string name,.string ⟨#[119,104,97,116]⟩,.string ⟨#[107,105,110,100]⟩,.string ⟨#[116,105,109,101,115]⟩,.string ⟨#[117,110,116,105,108]⟩] 9)
   have hDn:=hDi.alloc (.cells #[.string name,.string ⟨#[119,104,97,116]⟩,.string ⟨#[107,105,110,100]⟩,.string ⟨#[116,105,109,101,115]⟩,.string ⟨#[117,110,116,105,108]⟩] 9)
   have hBn:=hBi.alloc hBi.size (.cells #[.string name,.string ⟨#[119,104,97,116]⟩,.string ⟨#[107,105,110,100]⟩,.string ⟨#[116,105,109,101,115]⟩,.string ⟨#[117,110,116,105,108]⟩] 9)
   go_wp2_with fail
   generalize wi.alloc (.cells #[.string name,.string ⟨#[119,104,97,116]⟩,.string ⟨#[107,105,110,100]⟩,.string ⟨#[116,105,109,101,115]⟩,.string ⟨#[117,110,116,105,108]⟩] 9)=wk at hN hFn hDn hBn ⊢
   have hnbd:wi.heap.size ≠ db:=by have:=hDi.lt; omega
   obtain ⟨nb,hnb⟩:∃ nb,wi.heap.size=nb:=⟨_,rfl⟩
   rw [hnb] at hN hnbd
   try rw [hnb]
   have KK:=Lib.hid (And.intro hN (And.intro hFn (And.intro hDn hBn)))
   have HNB:=Lib.hid hnbd
   clear hBi hfd hzL hFi hDi hN hFn hDn hBn hnb hnbd HBI HXS HQB HBL HFD
   go_loopw [127] (fun v127 wr => ∃ k:Nat,k ≤ 5 ∧ v127=.int .i64 (k:Int) ∧ Blk wr nb 9 #[.string name,.string ⟨#[119,104,97,116]⟩,.string ⟨#[107,105,110,100]⟩,.string ⟨#[116,105,109,101,115]⟩,.string ⟨#[117,110,116,105,108]⟩] ∧ LwF wr db fb t (.slice Af nf cf) Lf ∧ Dc wr db ∧ Below w.heap.size w wr) (fun v127 _ => 5 - (intOf v127).toNat)
   case atStart => exact ⟨0,by omega,rfl,KK.out.1,KK.out.2.1,KK.out.2.2.1,KK.out.2.2.2⟩
   case round =>
    obtain ⟨k,hk,rfl,hN,hF,hD,hB⟩:=hrel
    rename World => wr
    clear KK
    have HK:=Lib.hid (And.intro hN (And.intro hF (And.intro hD hB)))
    by_cases hlt5:k < 5
    ·have hnm:∃ nm,wr.cell? ⟨nb,k,none⟩=some (.string nm):=by
      have h5':k=0 ∨ k=1 ∨ k=2 ∨ k=3 ∨ k=4:=by omega
      rcases h5' with rfl | rfl | rfl | rfl | rfl
      all_goals exact ⟨_,(hN.cell _).trans rfl⟩
     obtain ⟨nm,e0⟩:=hnm
     have zk:(k:Int) < 5:=by omega
     have z0:(0:Int) ≤ (k:Int):=by omega
     have dlt:=hD.lt
     have hh:=fun (cs:Array Value) => And.intro (below_al' wr (.cells cs 9)) (And.intro (Blk.new wr 9 cs) (hD.alloc (.cells cs 9)))
     obtain ⟨hwa,hWB,hDa⟩:=hh #[.string ⟨#[119,111,114,100,115]⟩,.string ⟨#[97,99,116,115]⟩,.string ⟨#[97,32,116,101,120,116]⟩,.string ⟨#[55]⟩,.string ⟨#[45,49]⟩,.string ⟨#[43,55]⟩,.string ⟨#[48,55]⟩,.string ⟨#[57,50,50,51,51,55,50,48,51,54,56,53,52,55,55,53,56,48,56]⟩,.string ⟨#[45,57,50,50,51,51,55,50,48,51,54,56,53,52,55,55,53,56,48,56]⟩,.string ⟨#[50,48,48,48,45,48,49,45,48,49]⟩,.string ⟨#[50,48,48,48,45,49,45,49]⟩,.string ⟨#[]⟩]
     clear hh
     have hwd:=k_WordK db wr.heap.size 0 12 12 (fun q => w12.getD q ⟨#[]⟩) _ hDa hWB.lt (by omega) (by decide) (by decide) (fun q hq => by
      have h12:q=0 ∨ q=1 ∨ q=2 ∨ q=3 ∨ q=4 ∨ q=5 ∨ q=6 ∨ q=7 ∨ q=8 ∨ q=9 ∨ q=10 ∨ q=11:=by omega
      rcases h12 with rfl | rfl | rfl | rfl | rfl | rfl | rfl | rfl | rfl | rfl | rfl | rfl
      all_goals exact (hWB.cell _).trans rfl)
     have HWD:=Lib.hid hwd
     have HWA:=Lib.hid hwa
     clear hN hF hD hB hwa hWB hDa hwd
     go_wp2_with fail
     clear e0
     refine HWD.out.mono ?_
     rintro e w8 ⟨q,hq,rfl,hd8,hg8⟩
     obtain ⟨tx,htx⟩:∃ tx,w12.getD q ⟨#[]⟩=tx:=⟨_,rfl⟩
     have htz:tx.size ≤ 1000:=by
      rw [← htx]
      have h12:q=0 ∨ q=1 ∨ q=2 ∨ q=3 ∨ q=4 ∨ q=5 ∨ q=6 ∨ q=7 ∨ q=8 ∨ q=9 ∨ q=10 ∨ q=11:=by omega
      rcases h12 with rfl | rfl | rfl | rfl | rfl | rfl | rfl | rfl | rfl | rfl | rfl | rfl
      all_goals decide
     have hg9:wr.grownBy w8 (some db):=gb_trans (World.grownBy_alloc wr _ (some db)) hg8
     have hz8:=hg9.size
     have hF8:=(HK.out.2.1.step hg9).alloc (.cells #[.string text,.string tx] 9)
     have hN8:Blk (w8.alloc (.cells #[.string text,.string tx] 9)) nb 9 #[.string name,.string ⟨#[119,104,97,116]⟩,.string ⟨#[107,105,110,100]⟩,.string ⟨#[116,105,109,101,115]⟩,.string ⟨#[117,110,116,105,108]⟩]:=Blk.alloc (w:=w8) ((hg9.block nb HK.out.1.lt (fun h => HNB.out (Option.some.inj h))).trans HK.out.1) _
     have hD8:=hd8.alloc (.cells #[.string text,.string tx] 9)
     have hB8:=(HK.out.2.2.2.grown hg9 (by omega) (fun g hg => by injection hg; omega)).alloc (by have:=HK.out.2.2.2.size; omega) (.cells #[.string text,.string tx] 9)
     have hT8:=Blk.new w8 9 #[.string text,.string tx]
     dsimp only
     rw [htx]
     go_wp2_with fail
     generalize w8.alloc (.cells #[.string text,.string tx] 9)=w9 at hF8 hN8 hD8 hB8 hT8 ⊢
     obtain ⟨tb,htb⟩:∃ tb,w8.heap.size=tb:=⟨_,rfl⟩
     rw [htb] at hT8
     try rw [htb]
     have txt:∀ j,j < 2 → ∃ y:ByteArray,w9.cell? ⟨tb,j,none⟩=some (.string y) ∧ y.size ≤ 1000:=fun j hj => by
      have h2:j=0 ∨ j=1:=by omega
      rcases h2 with rfl | rfl
      ·exact ⟨_,(hT8.cell 0).trans rfl,ht1000⟩
      ·exact ⟨_,(hT8.cell 1).trans rfl,htz⟩
     have HTX:=Lib.hid txt
     have HTB:=Lib.hid (show tb < w9.heap.size from hT8.lt)
     have K9:=Lib.hid (And.intro hN8 (And.intro hF8 (And.intro hD8 hB8)))
     clear htx htz hg9 hz8 hF8 hN8 hD8 hB8 hT8 htb txt hd8 hg8 hq HWD HWA HK dlt
     go_loopw [137] (fun v137 wj => ∃ j:Nat,j ≤ 2 ∧ v137=.int .i64 (j:Int) ∧ Below w9.heap.size w9 wj) (fun v137 _ => 2 - (intOf v137).toNat)
     case atStart => exact ⟨0,by omega,rfl,Below.refl _ _⟩
     case round =>
      obtain ⟨j,hj,rfl,hbj⟩:=hrel
      rename World => wj
      by_cases hlt2:j < 2
      ·obtain ⟨y,hy,hysz⟩:=HTX.out j hlt2
       have e0:=(hbj.cell (p:=⟨tb,j,none⟩) HTB.out).trans hy
       have zj:(j:Int) < 2:=by omega
       have z0j:(0:Int) ≤ (j:Int):=by omega
       have up:∀ W,Below w9.heap.size w9 W → FldsAt W (· < W.heap.size) (.slice Af nf cf) Lf ∧ Blk W fb 37 #[.string t,.slice Af nf cf] ∧ ParOk W ∧ SpcOk W:=fun W hW => by
        have h1:=K9.out.2.2.2.trans (hW.mono K9.out.2.2.2.size)
        exact ⟨(K9.out.2.1.at_.keep fun b hb => hW.block b hb.2).mono fun b hb => Nat.lt_of_lt_of_le hb.2 hW.size,K9.out.2.1.blk.below' hW K9.out.2.1.blk.lt,(HLB.out _ h1).1,(HLB.out _ h1).2⟩
       have HUP:=Lib.hid up
       have HBJ:=Lib.hid hbj
       obtain ⟨rv,hrv⟩:∃ rv,valS dayD (validB t Lf) Lf nm y=rv:=⟨_,rfl⟩
       have h1:=fun W (hW:Below w9.heap.size w9 W) => s_Value t nm y (.slice Af nf cf) Lf W (HUP.out W hW).1 HFO.out.1 HFO.out.2 (HUP.out W hW).2.2.1 hysz
       have h2:=fun W (hW:Below w9.heap.size w9 W) => r_Value t nm y (.slice Af nf cf) Lf W (HUP.out W hW).1 HFO.out.1 HFO.out.2 (HUP.out W hW).2.2.1 (HUP.out W hW).2.2.2 hysz
       rw [hrv] at h1 h2
       obtain ⟨⟨fl,tx',nu⟩,er⟩:=rv
       have H1:=Lib.hid h1
       have H2:=Lib.hid h2
       have f0:=((HUP.out wj hbj).2.1.cell 0).trans (show _=some (Value.string t) from rfl)
       have f1:=((HUP.out wj hbj).2.1.cell 1).trans (show _=some (Value.slice Af nf cf) from rfl)
       clear hy up hbj h1 h2 hrv
       go_wp2_with fail
       refine (H1.out wj HBJ.out).mono ?_
       rintro e v1 ⟨rfl,hb1⟩
       have hB1:=HBJ.out.trans (hb1.mono HBJ.out.size)
       have hBa:=hB1.alloc hB1.size (.cells #[.string fl,.string tx',.int .i64 nu] 50)
       have hA1:=Blk.new v1 50 #[.string fl,.string tx',.int .i64 nu]
       have HBA:=Lib.hid hBa
       clear e0 f0 f1 hb1 hB1
       go_upto_region 26 with fail
       generalize v1.alloc (.cells #[.string fl,.string tx',.int .i64 nu] 50)=v2 at HBA hA1 hBa ⊢
       obtain ⟨ab,hab⟩:∃ ab,v1.heap.size=ab:=⟨_,rfl⟩
       rw [hab] at hA1
       try rw [hab]
       have f0:=((HUP.out v2 hBa).2.1.cell 0).trans (show _=some (Value.string t) from rfl)
       have f1:=((HUP.out v2 hBa).2.1.cell 1).trans (show _=some (Value.slice Af nf cf) from rfl)
       have HA1:=Lib.hid hA1
       clear hBa hab hA1
       go_wp2_with fail
       refine (H2.out v2 HBA.out).mono ?_
       rintro e v3 ⟨rfl,hb3⟩
       have hB3:=HBA.out.trans (hb3.mono HBA.out.size)
       have hBb:=hB3.alloc hB3.size (.cells #[.string fl,.string tx',.int .i64 nu] 50)
       have hA2:=Blk.new v3 50 #[.string fl,.string tx',.int .i64 nu]
       have hA1':=(HA1.out.below' hb3 HA1.out.lt).alloc (.cells #[.string fl,.string tx',.int .i64 nu] 50)
       have HBB:=Lib.hid hBb
       clear f0 f1 hb3 hB3 hBb
       go_upto_region 27 with fail
       generalize v3.alloc (.cells #[.string fl,.string tx',.int .i64 nu] 50)=v4 at HBB hA1' hA2 ⊢
       have a0:=(hA1'.cell 0).trans (show _=some (Value.string fl) from rfl)
       have a1:=(hA1'.cell 1).trans (show _=some (Value.string tx') from rfl)
       have a2:=(hA1'.cell 2).trans (show _=some (Value.int .i64 nu) from rfl)
       have b0:=(hA2.cell 0).trans (show _=some (Value.string fl) from rfl)
       have b1:=(hA2.cell 1).trans (show _=some (Value.string tx') from rfl)
       have b2:=(hA2.cell 2).trans (show _=some (Value.int .i64 nu) from rfl)
       clear hA1' hA2
       go_wp2_with fail
       go_roundw
       case measure => simp [intOf]; omega
       case rel => exact ⟨j+1,by omega,by go_num,HBB.out⟩
      ·have zj:¬ (j:Int) < 2:=by omega
       have hzj:=hbj.size
       have HEN:=Lib.hid (show Blk wj nb 9 #[.string name,.string ⟨#[119,104,97,116]⟩,.string ⟨#[107,105,110,100]⟩,.string ⟨#[116,105,109,101,115]⟩,.string ⟨#[117,110,116,105,108]⟩] ∧ LwF wj db fb t (.slice Af nf cf) Lf ∧ Dc wj db ∧ Below w.heap.size w wj from ⟨K9.out.1.below' hbj K9.out.1.lt,⟨K9.out.2.1.blk.below' hbj K9.out.2.1.blk.lt,K9.out.2.1.ne,(K9.out.2.1.at_.keep fun b hb => hbj.block b hb.2).mono fun b hb => ⟨hb.1,Nat.lt_of_lt_of_le hb.2 hzj⟩⟩,K9.out.2.2.1.keep fun q hq => hbj.block q (by have:=K9.out.2.2.1.lt; omega),K9.out.2.2.2.trans (hbj.mono K9.out.2.2.2.size)⟩)
       clear hbj hzj
       go_wp2_with fail
       go_roundw
       case measure => simp [intOf]; omega
       case rel => first | exact ⟨k+1,by omega,by go_num,HEN.out.1,HEN.out.2.1,HEN.out.2.2.1,HEN.out.2.2.2⟩ | ((repeat apply Exists.intro); exact ⟨⟨k+1,by omega,by go_num,HEN.out.1,HEN.out.2.1,HEN.out.2.2.1,HEN.out.2.2.2⟩,rfl⟩)
    ·have zk:¬ (k:Int) < 5:=by omega
     clear hN hF hD hB
     go_wp2_with fail
     refine (aw_awake _ (HLB.out _ HK.out.2.2.2).1).mono ?_
     rintro e w9 ⟨rfl,hb9⟩
     have HB9:=Lib.hid (HK.out.2.2.2.trans (hb9.mono HK.out.2.2.2.size))
     clear hb9
     go_wp2_with fail
     go_ret
     exact ⟨rfl,HB9.out⟩
end Go.Proofs.YtgdngfdeeadlnaaGreatDoor
