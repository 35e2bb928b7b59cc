/- Plain: the kit's conditions are read back from their texts, also with wide spaces. And more. -/
import Derived.Test.YtfinaekeoeeogaaGreatDoorX27
import Derived.Test.YtfinaekeoeeogaaGreatDoorX09
import Derived.Test.YtfinaekeoeeogaaGreatDoorX32
import Derived.Test.YtfinaekeoeeogaaGreatDoorX08
import Derived.Test.YtfinaekeoeeogaaGreatDoorX05
import Derived.Deep.Slices
import Derived.Test.YtfinaekeoeeogaaGreatDoorX01
import Derived.ProofKit
import Derived.SizedLaws
import Derived.Test.YtfinaekeoeeogaaGreatDoorX03
import Derived.ChangeArms
import Derived.ChangeSame
set_option linter.unusedVariables false
set_option linter.unusedSimpArgs false
namespace Go.Proofs.YtfinaekeoeeogaaGreatDoor
open Go.RowKit Num
def wid1 (c : UInt8) : List UInt8 := if signB c then [32,c,10] else [c]
def widB (l : List UInt8) : List UInt8 := (l.map wid1).flatten
theorem widB_app (a b : List UInt8) : widB (a ++ b) = widB a ++ widB b := by simp [widB]
theorem widB_id {a : List UInt8} (h : ∀ c ∈ a,signB c = false) : widB a = a := by
 induction a with
 | nil => rfl
 | cons c a ih =>
  have h1:wid1 c = [c]:=by unfold wid1; rw [h c (by simp)]; rfl
  have h2:=ih fun d hd => h d (by simp [hd])
  unfold widB at h2 ⊢
  rw [List.map_cons,List.flatten_cons,h1,h2]; rfl
theorem widB_in {a : List UInt8} (h : ∀ c ∈ a,inWB c = true) : widB a = a := widB_id fun c hc => (in_not_sign (h c hc)).1
theorem widB_tail (L : List (List UInt8)) : widB (Lib.joinTail [44,32] L) = Lib.joinTail [32,44,10,32] (L.map widB) := by
 induction L with
 | nil => rfl
 | cons x L ih =>
  unfold Lib.joinTail at ih ⊢
  simp only [List.map_cons,List.flatten_cons]
  rw [widB_app,widB_app,ih]
  rfl
theorem widB_join (L : List (List UInt8)) : widB (joinS [44,32] L) = joinS [32,44,10,32] (L.map widB) := by
 cases L with
 | nil => rfl
 | cons x L =>
  show widB (x ++ Lib.joinTail [44,32] L)=widB x ++ Lib.joinTail [32,44,10,32] (L.map widB)
  rw [widB_app,widB_tail]
def AllT (P : Trm → Prop) : Nat → Tree → Prop
 | 0,_ => True
 | d+1,.node t xs => P t ∧ ∀ x ∈ xs,AllT P d x
theorem wid_text : ∀ d {T : Tree},GoodT d T → AllT KitT d T → widB (txT d T) = textG [32] [10] d T := by
 intro d
 induction d with
 | zero => intro T h; exact h.elim
 | succ d ih =>
  intro T hg ha
  obtain ⟨t,xs⟩:=T
  obtain ⟨hb,hs,hn1,hx⟩:=hg
  obtain ⟨⟨_,_,hf,ht,_⟩,hxa⟩:=ha
  have hk:=bare_kind hb
  have hnm:=(nm_spec t.kind hk.1 hk.2).2.2
  rw [txT_node,textG_node]
  by_cases c1:t.kind=1 ∨ t.kind=2
  ·rw [if_pos c1,if_pos c1]
   rw [widB_app,widB_app,widB_app,widB_in hnm,widB_join,List.map_map]
   have e:xs.map (widB ∘ txT d)=xs.map (textG [32] [10] d):=List.map_congr_left fun x hm => ih (hx x hm) (hxa x hm)
   rw [e]
   rfl
  ·rw [if_neg c1,if_neg c1]
   unfold bareB at hb
   by_cases c3:t.kind=3 ∨ t.kind=4
   ·rw [if_neg (by omega),if_pos c3] at hb
    simp only [Bool.and_eq_true,decide_eq_true_eq,betwB] at hb
    rw [if_pos c3,widB_app,widB_app,widB_in hnm,widB_in (num_spec t.num (by omega) (by omega)).2.2]
    rfl
   ·rw [if_neg c3]
    by_cases c5:t.kind=5
    ·rw [if_neg (by omega),if_neg c3,if_pos c5] at hb
     simp only [Bool.and_eq_true,decide_eq_true_eq,betwB] at hb
     rw [c5] at hnm
     rw [if_pos c5]
     simp only [widB_app]
     rw [widB_in hnm,widB_in (num_spec t.num (by omega) (by omega)).2.2,widB_in (num_spec t.yrs (by omega) (by omega)).2.2]
     rfl
    ·rw [if_neg c5]
     by_cases c7:t.kind=7
     ·rw [if_neg (by omega),if_neg c3,if_neg c5,if_pos c7] at hb
      simp only [Bool.and_eq_true,decide_eq_true_eq,betwB] at hb
      rw [c7] at hnm
      rw [if_pos c7]
      simp only [widB_app]
      rw [widB_in hnm,widB_in (num_spec t.num (by omega) (by omega)).2.2,widB_id hf,widB_id ht]
      rfl
     ·rw [if_neg c7,widB_in hnm]
theorem leaf_short (t : Trm) (hb : bareB t = true) (ht : KitT t) (hk : ¬ (t.kind = 1 ∨ t.kind = 2)) (d : Nat) (xs : List Tree) : (txT (d + 1) (.node t xs)).length ≤ 32 := by
 have hk8:=bare_kind hb
 have hn:=nm_len t.kind hk8.1 hk8.2
 have hf:(blOf t.field).length ≤ 4:=by rw [blOf_len]; exact ht.1
 have htx:(blOf t.text).length ≤ 5:=by rw [blOf_len]; exact ht.2.1
 rw [txT_node,if_neg hk]
 unfold bareB at hb
 by_cases c3:t.kind=3 ∨ t.kind=4
 ·rw [if_neg (by omega),if_pos c3] at hb
  simp only [Bool.and_eq_true,decide_eq_true_eq,betwB] at hb
  have:=itoa_small t.num (by omega) (by omega)
  rw [if_pos c3]; simp only [List.length_append,List.length_cons,List.length_nil]; omega
 ·rw [if_neg c3]
  by_cases c5:t.kind=5
  ·rw [if_neg (by omega),if_neg c3,if_pos c5] at hb
   simp only [Bool.and_eq_true,decide_eq_true_eq,betwB] at hb
   have h1:=itoa_small t.num (by omega) (by omega)
   have h2:=itoa_small t.yrs (by omega) (by omega)
   rw [c5] at hn
   rw [if_pos c5]; simp only [List.length_append,List.length_cons,List.length_nil,ofB]; omega
  ·rw [if_neg c5]
   by_cases c7:t.kind=7
   ·rw [if_neg (by omega),if_neg c3,if_neg c5,if_pos c7] at hb
    simp only [Bool.and_eq_true,decide_eq_true_eq,betwB] at hb
    have h1:=itoa_small t.num (by omega) (by omega)
    rw [c7] at hn
    rw [if_pos c7]; simp only [List.length_append,List.length_cons,List.length_nil,ofB]; omega
   ·rw [if_neg c7]; omega
theorem growA_short {l : List Trm} {d : Nat} (hd : ∀ {at_ T n},growF l d at_ = some (T,n) → (txT d T).length + 2 ≤ 34 * (n - at_) ∧ at_ ≤ n) :
  ∀ {ks nx xs n},growA (growF l d) ks nx=some (xs,n) → (Lib.joinTail [44,32] (xs.map (txT d))).length ≤ 34*(n - nx) ∧ nx ≤ n:=by
 intro ks
 induction ks with
 | nil => intro nx xs n h; simp [growA] at h; obtain ⟨rfl,rfl⟩:=h; simp [Lib.joinTail]
 | cons k ks ih =>
  intro nx xs n h
  unfold growA at h
  split at h
  ·split at h
   ·cases h
   ·rename_i x af hx
    split at h
    ·cases h
    ·rename_i xs' n' ha
     injection h with h; injection h with h1 h2; subst h1; subst h2
     obtain ⟨e1,e2⟩:=hd hx
     obtain ⟨f1,f2⟩:=ih ha
     simp only [Lib.joinTail,List.map_cons,List.flatten_cons,List.length_append,List.length_cons,List.length_nil] at f1 ⊢
     omega
  ·cases h
theorem grow_short {l : List Trm} (hl : ∀ t ∈ l,KitT t) : ∀ d {at_ T n},growF l d at_ = some (T,n) → (txT d T).length + 2 ≤ 34 * (n - at_) ∧ at_ ≤ n := by
 intro d
 induction d with
 | zero => intro at_ T n h; simp [growF] at h
 | succ d ih =>
  intro at_ T n h
  unfold growF at h
  split at h
  ·cases h
  ·rename_i t ht
   split at h
   ·rename_i hb
    rw [Bool.and_eq_true] at hb
    split at h
    ·cases h
    ·rename_i xs n' ha
     injection h with h; injection h with h1 h2; subst h1; subst h2
     obtain ⟨f1,f2⟩:=growA_short ih ha
     refine ⟨?_,by omega⟩
     by_cases hk:t.kind=1 ∨ t.kind=2
     ·have hk8:=bare_kind hb.1
      have hn:=nm_len t.kind hk8.1 hk8.2
      have hj:=joinS_tail [44,32] (xs.map (txT d))
      rw [txT_node,if_pos hk]
      simp only [List.length_append,List.length_cons,List.length_nil]
      omega
     ·have:=leaf_short t hb.1 (hl t (List.mem_of_getElem? ht)) hk d xs
      omega
   ·cases h
theorem nm_ge (k : Int) (h1 : 1 ≤ k) (h2 : k ≤ 8) : 3 ≤ (nmK k).length ∧ (k ≠ 1 → k ≠ 2 → 5 ≤ (nmK k).length ∨ k = 7) := by
 have:∀ j:Fin 9,1 ≤ j.val → 3 ≤ (nmK (j.val:Int)).length ∧ (j.val ≠ 1 → j.val ≠ 2 → 5 ≤ (nmK (j.val:Int)).length ∨ j.val=7):=by decide
 obtain ⟨m,rfl⟩:=Int.eq_ofNat_of_zero_le (show 0 ≤ k by omega)
 obtain ⟨a,b⟩:=this ⟨m,by omega⟩ (by show 1 ≤ m; omega)
 refine ⟨a,fun h3 h4 => ?_⟩
 rcases b (by show m ≠ 1; omega) (by show m ≠ 2; omega) with c | c
 ·exact .inl c
 ·exact .inr (by have c':m=7:=c; omega)
theorem text_ge {pre post : List UInt8} {d : Nat} {T : Tree} (h : GoodT d T) : 5 ≤ (textG pre post d T).length := by
 cases d with
 | zero => exact h.elim
 | succ d =>
  obtain ⟨t,xs⟩:=T
  obtain ⟨hb,_⟩:=h
  have hk:=bare_kind hb
  obtain ⟨g1,g2⟩:=nm_ge t.kind hk.1 hk.2
  rw [textG_node]
  split
  ·simp only [List.length_append,List.length_cons,List.length_nil]; omega
  ·split
   ·simp only [List.length_append,List.length_cons,List.length_nil]; omega
   ·split
    ·simp only [List.length_append,List.length_cons,List.length_nil,ofB]; omega
    ·split
     ·simp only [List.length_append,List.length_cons,List.length_nil,ofB]; omega
     ·rcases g2 (by omega) (by omega) with g | g
      ·exact g
      ·omega
theorem parseC_tree {s : List UInt8} {L : List Trm} {T : Tree} (h : rootF L = some T) (h1 : s.length ≤ 4096) (h5 : 5 ≤ s.length) (hp : parseF s = .inl (eraseF 6 T)) : parseC s = (L,0,0) := by
 obtain ⟨hg,hL⟩:=root_some h
 have hgood:=grow_good 6 hg
 have hfl:flatT (s.length+1) 0 (eraseF 6 T)=L:=by
  rw [← erase_mono 6 (s.length+1) hgood (by omega),flat_mono 6 (s.length+1) hgood (by omega),(flat_grow 6 hg).1]
  simp
 unfold parseC
 rw [if_neg (by omega),hp]
 simp only [hfl]
 rw [if_pos (by unfold rightB; rw [h]; rfl)]
theorem back_len {L : List Trm} {T : Tree} (h : rootF L = some T) (hk : ∀ t ∈ L,KitT t) : (txT 6 T).length ≤ 820 := by
 obtain ⟨hg,hL⟩:=root_some h
 have:=(grow_short hk 6 hg).1
 omega
theorem back_same {L : List Trm} {T : Tree} (h : rootF L = some T) (hk : ∀ t ∈ L,KitT t) : parseC (txT 6 T) = (L,0,0) := by
 have hl:=back_len h hk
 have hgood:=grow_good 6 (root_some h).1
 refine parseC_tree h (by omega) (text_ge hgood) ?_
 have:=parse_text (pre:=[]) (post:=[]) (fun c hc => by cases hc) (fun c hc => by cases hc) hgood [] (fun c hc => by cases hc)
 rwa [List.nil_append] at this
structure OwnTr (w : World) (B : Nat) (S : Nat → Prop) (v : Value) (L : List Trm) (us : Nat → Value) : Prop where
  row : w.ownsRow B 51 6 v L.length (tmsC L us)
  args : ∀ k, k < L.length → IntsAt w S (us k) (trmAt L k).args
theorem terms_src {w : World} {S : Nat → Prop} {b off n c : Nat} {L : List Trm} (h : TermsAt w S (.slice (some ⟨b,off,none⟩) n c) L) :
  ∃ us:Nat → Value,(∀ k,k < L.length → IntsAt w S (us k) (trmAt L k).args) ∧ ∀ j u,(tmsC L us)[j]?=some u → w.cell? ((⟨b,off,none⟩:Addr).add j)=some u:=by
 obtain ⟨A,n',c',he,hn,hnc,h4⟩:=h
 injection he with e1 e2 e3
 subst e2 e3
 have hk:∀ k,k < L.length → ∃ u,w.cell? ⟨b,off+k*6+5,none⟩=some u ∧ IntsAt w S u (trmAt L k).args ∧ TermAt w S b (off+k*6) (trmAt L k):=by
  intro k hk
  obtain ⟨b',off',hA,hS,hc⟩:=h4 (by omega)
  rw [← e1] at hA
  injection hA with hA; injection hA with a1 a2
  subst a1 a2
  have hT:=hc k (by omega)
  obtain ⟨u,q1,q2⟩:=hT.2.2.2.2.2
  exact ⟨u,q1,q2,hT⟩
 haveI:Inhabited Value:=⟨undef⟩
 obtain ⟨us,hus⟩:=Go.Deep.choose_lt hk
 refine ⟨us,fun k hk => (hus k hk).2.1,fun j u hj => ?_⟩
 have hjl:j < 6*L.length:=by
  have:=(List.getElem?_eq_some_iff.1 hj).1
  rw [tmsC_len] at this; omega
 rw [tmsC_get L us j hjl] at hj
 injection hj with hj
 obtain ⟨q1,q2,c0,c1,c2,c3,c4,-⟩:=hus (j / 6) (by omega)
 have ea:(⟨b,off,none⟩:Addr).add j=⟨b,off+j / 6*6+j % 6,none⟩:=by rw [Go.WideShapes.add_plain,show off+j / 6*6+j % 6=off+j by omega]
 rw [ea,← hj]
 obtain ⟨i,hi,hi6⟩:∃ i,j % 6=i ∧ i < 6:=⟨_,rfl,by omega⟩
 rw [hi]
 match i,hi6 with
 | 0,_ => exact c0
 | 1,_ => exact c1
 | 2,_ => exact c2
 | 3,_ => exact c3
 | 4,_ => exact c4
 | 5,_ => exact q1
theorem tmsC_one {w : World} {S : Nat → Prop} {L : List Trm} {us : Nat → Value} (h : ∀ k,k < L.length → IntsAt w S (us k) (trmAt L k).args) : ∀ u ∈ tmsC L us,u.oneCell' = true := by
 intro u hu
 obtain ⟨j,hj⟩:=List.getElem?_of_mem hu
 have hjl:j < 6*L.length:=by
  have:=(List.getElem?_eq_some_iff.1 hj).1
  rw [tmsC_len] at this; omega
 rw [tmsC_get L us j hjl] at hj
 injection hj with hj
 rw [← hj]
 obtain ⟨A,n,c,e,-⟩:=h (j / 6) (by omega)
 rw [e]
 obtain ⟨i,hi,hi6⟩:∃ i,j % 6=i ∧ i < 6:=⟨_,rfl,by omega⟩
 rw [hi]
 match i,hi6 with
 | 0,_ | 1,_ | 2,_ | 3,_ | 4,_ | 5,_ => rfl
theorem trmAt_set (L : List Trm) (k j : Nat) (t : Trm) (h : k < L.length) : trmAt (L.set k t) j = if j = k then t else trmAt L j := by
 unfold trmAt
 rw [List.getD_eq_getElem?_getD,List.getElem?_set]
 by_cases e:k=j
 ·subst e; simp [h]
 ·rw [if_neg e,if_neg (fun e' => e e'.symm),List.getD_eq_getElem?_getD]
theorem tmsC_store (L : List Trm) (us : Nat → Value) (k i : Nat) (t' : Trm) (u' v : Value) (h : k < L.length) (hi : i < 6) (e : (tmCell (trmAt L k) (us k)).set i v = tmCell t' u') :
  (tmsC L us).set (k*6+i) v=tmsC (L.set k t') (fun j => if j=k then u' else us j):=by
 apply List.ext_getElem?
 intro q
 have hlen:(L.set k t').length=L.length:=List.length_set ..
 rw [List.getElem?_set]
 rcases Nat.lt_or_ge q (6*L.length) with hq | hq
 ·rw [tmsC_get L us q hq,tmsC_get (L.set k t') _ q (by rw [hlen]; exact hq),trmAt_set L k _ t' h,tmsC_len]
  by_cases ek:q / 6=k
  ·rw [if_pos ek]
   simp only [ek,if_true]
   rw [← e]
   obtain ⟨j,hj,hj6⟩:∃ j,q % 6=j ∧ j < 6:=⟨_,rfl,by omega⟩
   rw [hj]
   by_cases eij:k*6+i=q
   ·have:i=j:=by omega
    subst this
    rw [if_pos eij,if_pos (by omega)]
    have hlt:i < (tmCell (trmAt L k) (us k)).length:=hi
    rw [List.getD_eq_getElem?_getD,List.getElem?_set_self hlt]
    rfl
   ·rw [if_neg eij]
    have hne:i ≠ j:=by omega
    rw [List.getD_eq_getElem?_getD,List.getD_eq_getElem?_getD,List.getElem?_set_ne hne]
  ·rw [if_neg ek,if_neg ek,if_neg (by omega)]
 ·rw [tmsC_none L us q hq,tmsC_none (L.set k t') _ q (by rw [hlen]; exact hq),if_neg (by omega)]
theorem OwnTr.mono {w : World} {B : Nat} {S T : Nat → Prop} {v : Value} {L : List Trm} {us : Nat → Value} (h : OwnTr w B S v L us) (hS : ∀ b,S b → T b) : OwnTr w B T v L us :=
 ⟨h.row,fun k hk => (h.args k hk).mono hS⟩
theorem OwnTr.store {w : World} {B g cap : Nat} {S : Nat → Prop} {L : List Trm} {us : Nat → Value} (h : OwnTr w B S (.slice (some ⟨g,0,none⟩) L.length cap) L us) {k i : Nat} (hk : k < L.length) (hi : i < 6) (t' : Trm) (u' v : Value)
  (e:(tmCell (trmAt L k) (us k)).set i v=tmCell t' u') (hu:IntsAt w S u' t'.args) (hS:∀ b,S b → b < w.heap.size ∧ b ≠ g) :
  OwnTr (w.setCell ⟨g,k*6+i,none⟩ v) B S (.slice (some ⟨g,0,none⟩) L.length cap) (L.set k t') (fun j => if j=k then u' else us j) ∧ w.grownBy (w.setCell ⟨g,k*6+i,none⟩ v) (some g):=by
 have st:=World.ownsRow.stored h.row (k*6+i) v
 have keep:∀ b,S b → (w.setCell ⟨g,k*6+i,none⟩ v).heap[b]?=w.heap[b]?:=fun b hb => st.2.block b (hS b hb).1 (fun e => (hS b hb).2 (Option.some.inj e))
 refine ⟨⟨?_,fun j hj => ?_⟩,st.2⟩
 ·rw [List.length_set,← tmsC_store L us k i t' u' v hk hi e]; exact st.1
 ·rw [List.length_set] at hj
  rw [trmAt_set L k j t' hk]
  by_cases ej:j=k
  ·simp only [ej,if_true]; exact hu.keep keep
  ·simp only [ej,if_false]; exact (h.args j hj).keep keep
end Go.Proofs.YtfinaekeoeeogaaGreatDoor
namespace Go.Proofs.YtfinaekeoeeogaaGreatDoor
open Go.ChangeShapes Go.WideShapes Go.ChangeAt Go.RowKit
theorem ints_fact {H : Type} {enc : TypeId × Value → H} {W : World} {t e : TypeId} {a : Option Addr} {n c : Nat} {d : DataW H} {p : List MemPlace} (ht : Tryz.prog.underlying t = some (.slice e)) (he : Tryz.prog.underlying e = some (.int .i64)) (hc : Tryz.prog.cellsOf e = 1)
  (h:DataW.Trod enc Tryz.prog W 0 (fun _ => true) true t (.slice a n c) d p) (hlt:∀ x ∈ p,x.block < W.heap.size) :
  n ≤ 9223372036854775807 ∧ (n ≤ 500 → ArgL W (.slice a n c)):=by
 obtain ⟨fu,hf⟩:=h
 rcases open_ints ht he hc hf with ⟨hcs,hx⟩ | ⟨b,len',cap',zs,hcs,_,hl,hm,hz,hx,hcell,hwz⟩
 ·simp [Value.cells] at hcs
  obtain ⟨rfl,rfl,rfl⟩:=hcs
  exact ⟨by omega,fun _ => ⟨none,0,0,fun _ => 0,rfl,by omega,fun h => absurd h (by omega)⟩⟩
 ·simp [Value.cells] at hcs
  obtain ⟨rfl,rfl,rfl⟩:=hcs
  simp only [Prod.mk.injEq] at hx
  obtain ⟨rfl,rfl⟩:=hx
  simp only [if_true] at hz
  unfold maxLen at hm
  refine ⟨by omega,fun h5 => ⟨some b,n,c,fun i => zs.getD i 0,rfl,h5,fun hn => ?_⟩⟩
  obtain ⟨b0,off,spot⟩:=b
  have hspot:spot=none:=by simpa [Addr.add] using World.cell?_spot (hcell 0 (by omega))
  subst hspot
  refine ⟨b0,off,rfl,hlt (.cell b0 off) (MemPlace.mem_row.2 ⟨0,by omega,by simp⟩),fun i hi => ?_⟩
  rw [← add_plain]; exact hcell i (by omega)
end Go.Proofs.YtfinaekeoeeogaaGreatDoor
namespace Go.Proofs.YtfinaekeoeeogaaGreatDoor
open Go.ChangeShapes Go.WideShapes Go.RowKit
def TrmWide (t : Trm) : Prop := t.field.size ≤ maxLen ∧ t.text.size ≤ maxLen ∧ t.args.length ≤ maxLen ∧ (Lit.int .i64 t.kind).wf = true ∧ (Lit.int .i64 t.num).wf = true ∧ (Lit.int .i64 t.yrs).wf = true ∧ ∀ a ∈ t.args,(Lit.int .i64 a).wf = true
section
variable {H : Type} {enc : TypeId × Value → H} {P : Program} {w : World} {base : Nat} {spare : Nat → Bool} {held : Bool}
theorem ints_at_fact {t e : TypeId} {fuel : Nat} {v : Value} {x : DataW H × List MemPlace} (ht : P.underlying t = some (.slice e)) (he : P.underlying e = some (.int .i64)) (hc : P.cellsOf e = 1)
  (h:DataW.trod enc P w 0 (fun _ => true) held fuel t [v]=some x) (hlt:∀ p ∈ x.2,p.block < w.heap.size) :
  ∃ xs:List Int,IntsAt w (· < w.heap.size) v xs ∧ xs.length ≤ maxLen ∧ ∀ a ∈ xs,(Lit.int .i64 a).wf=true:=by
 rcases open_ints ht he hc h with ⟨hcs,hx⟩ | ⟨a,len,cap,zs,hcs,_,hl,hm,hz,hx,hcell,hwz⟩
 ·simp at hcs
  exact ⟨[],⟨none,0,0,hcs,rfl,Nat.le_refl _,fun h => absurd h (by omega)⟩,by simp,fun _ h => by cases h⟩
 ·simp at hcs
  simp only [if_true] at hz
  subst hx
  have hlen:(zs.take len).length=len:=by rw [List.length_take]; omega
  refine ⟨zs.take len,⟨some a,len,cap,hcs,hlen.symm,hl,fun hn => ?_⟩,by omega,fun a ha => hwz a (List.mem_of_mem_take ha)⟩
  obtain ⟨b0,off,spot⟩:=a
  have hspot:spot=none:=by simpa [Addr.add] using World.cell?_spot (hcell 0 (by omega))
  subst hspot
  refine ⟨b0,off,rfl,hlt (.cell b0 off) (MemPlace.mem_row.2 ⟨0,by omega,by simp⟩),fun i hi => ?_⟩
  have h1:=hcell i (by omega)
  rw [add_plain] at h1
  rw [h1]
  simp [List.getD,List.getElem?_take,hi]
theorem trod_struct6 {t : TypeId} {f0 f1 f2 f3 f4 f5 : Field} {fuel : Nat} {cs : List Value} {x : DataW H × List MemPlace} (ht : P.underlying t = some (.struct #[f0,f1,f2,f3,f4,f5])) (h : DataW.trod enc P w base spare held fuel t cs = some x) :
  ∃ y0 y1 y2 y3 y4 y5 n,x=(.agg [y0.1,y1.1,y2.1,y3.1,y4.1,y5.1],y0.2 ++ (y1.2 ++ (y2.2 ++ (y3.2 ++ (y4.2 ++ y5.2))))) ∧ cs.length=P.cellsOf t ∧ DataW.trod enc P w base spare held n f0.type ((cs.drop f0.offset).take (P.cellsOf f0.type))=some y0 ∧
   DataW.trod enc P w base spare held n f1.type ((cs.drop f1.offset).take (P.cellsOf f1.type))=some y1 ∧ DataW.trod enc P w base spare held n f2.type ((cs.drop f2.offset).take (P.cellsOf f2.type))=some y2 ∧
   DataW.trod enc P w base spare held n f3.type ((cs.drop f3.offset).take (P.cellsOf f3.type))=some y3 ∧ DataW.trod enc P w base spare held n f4.type ((cs.drop f4.offset).take (P.cellsOf f4.type))=some y4 ∧
   DataW.trod enc P w base spare held n f5.type ((cs.drop f5.offset).take (P.cellsOf f5.type))=some y5:=by
 obtain ⟨xs,n,_,rfl,hl,hlen,hf⟩:=DataW.trod_struct ht h
 match xs,hlen with
 | [y0,y1,y2,y3,y4,y5],_ => exact ⟨y0,y1,y2,y3,y4,y5,n,by simp,hl,by simpa using hf 0 f0 rfl,by simpa using hf 1 f1 rfl,by simpa using hf 2 f2 rfl,by simpa using hf 3 f3 rfl,by simpa using hf 4 f4 rfl,by simpa using hf 5 f5 rfl⟩
structure TermTy (P : Program) (te : TypeId) (f0 f1 f2 f3 f4 f5 : Field) (ei : TypeId) : Prop where
  un : P.underlying te = some (.struct #[f0, f1, f2, f3, f4, f5])
  off : f0.offset = 0 ∧ f1.offset = 1 ∧ f2.offset = 2 ∧ f3.offset = 3 ∧ f4.offset = 4 ∧ f5.offset = 5
  one : P.cellsOf f0.type = 1 ∧ P.cellsOf f1.type = 1 ∧ P.cellsOf f2.type = 1 ∧ P.cellsOf f3.type = 1 ∧ P.cellsOf f4.type = 1 ∧ P.cellsOf f5.type = 1
  six : P.cellsOf te = 6
  i0 : P.underlying f0.type = some (.int .i64)
  i1 : P.underlying f1.type = some (.int .i64)
  i2 : P.underlying f2.type = some (.int .i64)
  s3 : P.underlying f3.type = some .string
  s4 : P.underlying f4.type = some .string
  l5 : P.underlying f5.type = some (.slice ei)
  ie : P.underlying ei = some (.int .i64)
  ec : P.cellsOf ei = 1
end
end Go.Proofs.YtfinaekeoeeogaaGreatDoor
