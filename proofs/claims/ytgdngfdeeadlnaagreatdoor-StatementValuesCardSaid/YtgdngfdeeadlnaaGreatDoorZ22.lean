/- Plain: the kit's conditions are read back from their texts, also with wide spaces. And more. -/
import Derived.Test.YtgdngfdeeadlnaaGreatDoorZ15
import Derived.Test.YtgdngfdeeadlnaaGreatDoorZ09
import Derived.Test.YtgdngfdeeadlnaaGreatDoorZ21
import Derived.Test.YtgdngfdeeadlnaaGreatDoorZ08
import Derived.Test.YtgdngfdeeadlnaaGreatDoorZ05
set_option linter.unusedVariables false
set_option linter.unusedSimpArgs false
namespace Go.Proofs.YtgdngfdeeadlnaaGreatDoor
open Go.RowKit Num
def wid1 (c : UInt8) : List UInt8 := if signB c then [32,c,10] else [c]
def widB (l : List UInt8) : List UInt8 := (l.map wid1).flatten
theorem widB_app (a b : List UInt8) : widB (a ++ b) = widB a ++ widB b := by simp [widB]
theorem widB_id {a : List UInt8} (h : ∀ c ∈ a,signB c = false) : widB a = a := by
 induction a with
 | nil => rfl
 | cons c a ih =>
  have h1:wid1 c = [c]:=by unfold wid1; rw [h c (by simp)]; rfl
  have h2:=ih fun d hd => h d (by simp [hd])
  unfold widB at h2 ⊢
  rw [List.map_cons,List.flatten_cons,h1,h2]; rfl
theorem widB_in {a : List UInt8} (h : ∀ c ∈ a,inWB c = true) : widB a = a := widB_id fun c hc => (in_not_sign (h c hc)).1
theorem widB_tail (L : List (List UInt8)) : widB (Lib.joinTail [44,32] L) = Lib.joinTail [32,44,10,32] (L.map widB) := by
 induction L with
 | nil => rfl
 | cons x L ih =>
  unfold Lib.joinTail at ih ⊢
  simp only [List.map_cons,List.flatten_cons]
  rw [widB_app,widB_app,ih]
  rfl
theorem widB_join (L : List (List UInt8)) : widB (joinS [44,32] L) = joinS [32,44,10,32] (L.map widB) := by
 cases L with
 | nil => rfl
 | cons x L =>
  show widB (x ++ Lib.joinTail [44,32] L)=widB x ++ Lib.joinTail [32,44,10,32] (L.map widB)
  rw [widB_app,widB_tail]
def AllT (P : Trm → Prop) : Nat → Tree → Prop
 | 0,_ => True
 | d+1,.node t xs => P t ∧ ∀ x ∈ xs,AllT P d x
theorem wid_text : ∀ d {T : Tree},GoodT d T → AllT KitT d T → widB (txT d T) = textG [32] [10] d T := by
 intro d
 induction d with
 | zero => intro T h; exact h.elim
 | succ d ih =>
  intro T hg ha
  obtain ⟨t,xs⟩:=T
  obtain ⟨hb,hs,hn1,hx⟩:=hg
  obtain ⟨⟨_,_,hf,ht,_⟩,hxa⟩:=ha
  have hk:=bare_kind hb
  have hnm:=(nm_spec t.kind hk.1 hk.2).2.2
  rw [txT_node,textG_node]
  by_cases c1:t.kind=1 ∨ t.kind=2
  ·rw [if_pos c1,if_pos c1]
   rw [widB_app,widB_app,widB_app,widB_in hnm,widB_join,List.map_map]
   have e:xs.map (widB ∘ txT d)=xs.map (textG [32] [10] d):=List.map_congr_left fun x hm => ih (hx x hm) (hxa x hm)
   rw [e]
   rfl
  ·rw [if_neg c1,if_neg c1]
   unfold bareB at hb
   by_cases c3:t.kind=3 ∨ t.kind=4
   ·rw [if_neg (by omega),if_pos c3] at hb
    simp only [Bool.and_eq_true,decide_eq_true_eq,betwB] at hb
    rw [if_pos c3,widB_app,widB_app,widB_in hnm,widB_in (num_spec t.num (by omega) (by omega)).2.2]
    rfl
   ·rw [if_neg c3]
    by_cases c5:t.kind=5
    ·rw [if_neg (by omega),if_neg c3,if_pos c5] at hb
     simp only [Bool.and_eq_true,decide_eq_true_eq,betwB] at hb
     rw [c5] at hnm
     rw [if_pos c5]
     simp only [widB_app]
     rw [widB_in hnm,widB_in (num_spec t.num (by omega) (by omega)).2.2,widB_in (num_spec t.yrs (by omega) (by omega)).2.2]
     rfl
    ·rw [if_neg c5]
     by_cases c7:t.kind=7
     ·rw [if_neg (by omega),if_neg c3,if_neg c5,if_pos c7] at hb
      simp only [Bool.and_eq_true,decide_eq_true_eq,betwB] at hb
      rw [c7] at hnm
      rw [if_pos c7]
      simp only [widB_app]
      rw [widB_in hnm,widB_in (num_spec t.num (by omega) (by omega)).2.2,widB_id hf,widB_id ht]
      rfl
     ·rw [if_neg c7,widB_in hnm]
theorem leaf_short (t : Trm) (hb : bareB t = true) (ht : KitT t) (hk : ¬ (t.kind = 1 ∨ t.kind = 2)) (d : Nat) (xs : List Tree) : (txT (d + 1) (.node t xs)).length ≤ 32 := by
 have hk8:=bare_kind hb
 have hn:=nm_len t.kind hk8.1 hk8.2
 have hf:(blOf t.field).length ≤ 4:=by rw [blOf_len]; exact ht.1
 have htx:(blOf t.text).length ≤ 5:=by rw [blOf_len]; exact ht.2.1
 rw [txT_node,if_neg hk]
 unfold bareB at hb
 by_cases c3:t.kind=3 ∨ t.kind=4
 ·rw [if_neg (by omega),if_pos c3] at hb
  simp only [Bool.and_eq_true,decide_eq_true_eq,betwB] at hb
  have:=itoa_small t.num (by omega) (by omega)
  rw [if_pos c3]; simp only [List.length_append,List.length_cons,List.length_nil]; omega
 ·rw [if_neg c3]
  by_cases c5:t.kind=5
  ·rw [if_neg (by omega),if_neg c3,if_pos c5] at hb
   simp only [Bool.and_eq_true,decide_eq_true_eq,betwB] at hb
   have h1:=itoa_small t.num (by omega) (by omega)
   have h2:=itoa_small t.yrs (by omega) (by omega)
   rw [c5] at hn
   rw [if_pos c5]; simp only [List.length_append,List.length_cons,List.length_nil,ofB]; omega
  ·rw [if_neg c5]
   by_cases c7:t.kind=7
   ·rw [if_neg (by omega),if_neg c3,if_neg c5,if_pos c7] at hb
    simp only [Bool.and_eq_true,decide_eq_true_eq,betwB] at hb
    have h1:=itoa_small t.num (by omega) (by omega)
    rw [c7] at hn
    rw [if_pos c7]; simp only [List.length_append,List.length_cons,List.length_nil,ofB]; omega
   ·rw [if_neg c7]; omega
theorem growA_short {l : List Trm} {d : Nat} (hd : ∀ {at_ T n},growF l d at_ = some (T,n) → (txT d T).length + 2 ≤ 34 * (n - at_) ∧ at_ ≤ n) :
  ∀ {ks nx xs n},growA (growF l d) ks nx=some (xs,n) → (Lib.joinTail [44,32] (xs.map (txT d))).length ≤ 34*(n - nx) ∧ nx ≤ n:=by
 intro ks
 induction ks with
 | nil => intro nx xs n h; simp [growA] at h; obtain ⟨rfl,rfl⟩:=h; simp [Lib.joinTail]
 | cons k ks ih =>
  intro nx xs n h
  unfold growA at h
  split at h
  ·split at h
   ·cases h
   ·rename_i x af hx
    split at h
    ·cases h
    ·rename_i xs' n' ha
     injection h with h; injection h with h1 h2; subst h1; subst h2
     obtain ⟨e1,e2⟩:=hd hx
     obtain ⟨f1,f2⟩:=ih ha
     simp only [Lib.joinTail,List.map_cons,List.flatten_cons,List.length_append,List.length_cons,List.length_nil] at f1 ⊢
     omega
  ·cases h
theorem grow_short {l : List Trm} (hl : ∀ t ∈ l,KitT t) : ∀ d {at_ T n},growF l d at_ = some (T,n) → (txT d T).length + 2 ≤ 34 * (n - at_) ∧ at_ ≤ n := by
 intro d
 induction d with
 | zero => intro at_ T n h; simp [growF] at h
 | succ d ih =>
  intro at_ T n h
  unfold growF at h
  split at h
  ·cases h
  ·rename_i t ht
   split at h
   ·rename_i hb
    rw [Bool.and_eq_true] at hb
    split at h
    ·cases h
    ·rename_i xs n' ha
     injection h with h; injection h with h1 h2; subst h1; subst h2
     obtain ⟨f1,f2⟩:=growA_short ih ha
     refine ⟨?_,by omega⟩
     by_cases hk:t.kind=1 ∨ t.kind=2
     ·have hk8:=bare_kind hb.1
      have hn:=nm_len t.kind hk8.1 hk8.2
      have hj:=joinS_tail [44,32] (xs.map (txT d))
      rw [txT_node,if_pos hk]
      simp only [List.length_append,List.length_cons,List.length_nil]
      omega
     ·have:=leaf_short t hb.1 (hl t (List.mem_of_getElem? ht)) hk d xs
      omega
   ·cases h
theorem nm_ge (k : Int) (h1 : 1 ≤ k) (h2 : k ≤ 8) : 3 ≤ (nmK k).length ∧ (k ≠ 1 → k ≠ 2 → 5 ≤ (nmK k).length ∨ k = 7) := by
 have:∀ j:Fin 9,1 ≤ j.val → 3 ≤ (nmK (j.val:Int)).length ∧ (j.val ≠ 1 → j.val ≠ 2 → 5 ≤ (nmK (j.val:Int)).length ∨ j.val=7):=by decide
 obtain ⟨m,rfl⟩:=Int.eq_ofNat_of_zero_le (show 0 ≤ k by omega)
 obtain ⟨a,b⟩:=this ⟨m,by omega⟩ (by show 1 ≤ m; omega)
 refine ⟨a,fun h3 h4 => ?_⟩
 rcases b (by show m ≠ 1; omega) (by show m ≠ 2; omega) with c | c
 ·exact .inl c
 ·exact .inr (by have c':m=7:=c; omega)
theorem text_ge {pre post : List UInt8} {d : Nat} {T : Tree} (h : GoodT d T) : 5 ≤ (textG pre post d T).length := by
 cases d with
 | zero => exact h.elim
 | succ d =>
  obtain ⟨t,xs⟩:=T
  obtain ⟨hb,_⟩:=h
  have hk:=bare_kind hb
  obtain ⟨g1,g2⟩:=nm_ge t.kind hk.1 hk.2
  rw [textG_node]
  split
  ·simp only [List.length_append,List.length_cons,List.length_nil]; omega
  ·split
   ·simp only [List.length_append,List.length_cons,List.length_nil]; omega
   ·split
    ·simp only [List.length_append,List.length_cons,List.length_nil,ofB]; omega
    ·split
     ·simp only [List.length_append,List.length_cons,List.length_nil,ofB]; omega
     ·rcases g2 (by omega) (by omega) with g | g
      ·exact g
      ·omega
theorem parseC_tree {s : List UInt8} {L : List Trm} {T : Tree} (h : rootF L = some T) (h1 : s.length ≤ 4096) (h5 : 5 ≤ s.length) (hp : parseF s = .inl (eraseF 6 T)) : parseC s = (L,0,0) := by
 obtain ⟨hg,hL⟩:=root_some h
 have hgood:=grow_good 6 hg
 have hfl:flatT (s.length+1) 0 (eraseF 6 T)=L:=by
  rw [← erase_mono 6 (s.length+1) hgood (by omega),flat_mono 6 (s.length+1) hgood (by omega),(flat_grow 6 hg).1]
  simp
 unfold parseC
 rw [if_neg (by omega),hp]
 simp only [hfl]
 rw [if_pos (by unfold rightB; rw [h]; rfl)]
theorem back_len {L : List Trm} {T : Tree} (h : rootF L = some T) (hk : ∀ t ∈ L,KitT t) : (txT 6 T).length ≤ 820 := by
 obtain ⟨hg,hL⟩:=root_some h
 have:=(grow_short hk 6 hg).1
 omega
theorem back_same {L : List Trm} {T : Tree} (h : rootF L = some T) (hk : ∀ t ∈ L,KitT t) : parseC (txT 6 T) = (L,0,0) := by
 have hl:=back_len h hk
 have hgood:=grow_good 6 (root_some h).1
 refine parseC_tree h (by omega) (text_ge hgood) ?_
 have:=parse_text (pre:=[]) (post:=[]) (fun c hc => by cases hc) (fun c hc => by cases hc) hgood [] (fun c hc => by cases hc)
 rwa [List.nil_append] at this
def txtR (l : List UInt8) : Except Int (List UInt8 × Nat) := match numR 0 0 l with
 | .error z => .error z
 | .ok (U,m) => if unz U < 0 then .error 4 else if ((l.length - m:Nat):Int) < unz U then .error 5 else .ok ((l.drop m).take (unz U).toNat,m+(unz U).toNat)
structure RS where
  rest : List UInt8
  bad : Bool
def rdI (s : RS) : Int × RS := if s.bad then (0,s) else match numR 0 0 s.rest with
 | .ok (U,m) => (unz U,⟨s.rest.drop m,false⟩)
 | .error _ => (0,⟨s.rest,true⟩)
def rdT (s : RS) : ByteArray × RS := if s.bad then (⟨#[]⟩,s) else match txtR s.rest with
 | .ok (x,m) => (bsOf x,⟨s.rest.drop m,false⟩)
 | .error _ => (⟨#[]⟩,⟨s.rest,true⟩)
def rdAns (s : RS) : Ans × RS := (⟨(rdT s).1,(rdT (rdT s).2).1,(rdI (rdT (rdT s).2).2).1⟩,(rdI (rdT (rdT s).2).2).2)
def rdShw (s : RS) : Shw × RS := (⟨(rdT s).1,(rdT (rdT s).2).1⟩,(rdT (rdT s).2).2)
def timesR {α : Type} (item : RS → α × RS) : Nat → RS → List α × RS
 | 0,s => ([],s)
 | n+1,s => if s.bad then ([],s) else ((item s).1 :: (timesR item n (item s).2).1,(timesR item n (item s).2).2)
def rdTimes {α : Type} (item : RS → α × RS) (s : RS) : List α × RS := if (rdI s).1 < 0 ∨ 256 < (rdI s).1 then ([],⟨(rdI s).2.rest,true⟩) else timesR item (rdI s).1.toNat (rdI s).2
theorem put_drop (l r : List UInt8) : (l ++ r).drop l.length = r := List.drop_left
theorem rdI_put {n : Int} (h1 : -9223372036854775808 ≤ n) (h2 : n < 9223372036854775808) (r : List UInt8) : rdI ⟨putB n ++ r,false⟩ = (n,⟨r,false⟩) := by
 unfold rdI
 rw [if_neg (by simp)]
 dsimp only
 rw [numR_put n h1 h2 r]
 dsimp only
 rw [unz_zig,put_drop]
theorem txtR_put {s : ByteArray} (hs : s.size ≤ 4294967296) (r : List UInt8) : txtR (textL s ++ r) = .ok (blOf s,(textL s).length) := by
 have hl:(blOf s).length=s.size:=Array.length_toList
 unfold txtR textL
 rw [List.append_assoc,numR_put (s.size:Int) (by omega) (by omega)]
 dsimp only
 rw [unz_zig,put_drop,if_neg (by omega),if_neg (by simp only [List.length_append]; omega)]
 congr 2
 ·rw [Int.toNat_natCast,← hl,List.take_left]
 ·rw [Int.toNat_natCast,List.length_append,hl]
theorem rdT_put {s : ByteArray} (hs : s.size ≤ 4294967296) (r : List UInt8) : rdT ⟨textL s ++ r,false⟩ = (s,⟨r,false⟩) := by
 unfold rdT
 rw [if_neg (by simp)]
 dsimp only
 rw [txtR_put hs r]
 dsimp only
 rw [put_drop]; rfl
theorem rdAns_put {a : Ans} (h1 : a.field.size ≤ 4294967296) (h2 : a.text.size ≤ 4294967296) (h3 : -9223372036854775808 ≤ a.num ∧ a.num < 9223372036854775808) (r : List UInt8) : rdAns ⟨ansL a ++ r,false⟩ = (a,⟨r,false⟩) := by
 unfold rdAns ansL
 rw [List.append_assoc,List.append_assoc,rdT_put h1]
 dsimp only
 rw [rdT_put h2]
 dsimp only
 rw [rdI_put h3.1 h3.2]
theorem rdShw_put {a : Shw} (h1 : a.field.size ≤ 4294967296) (h2 : a.role.size ≤ 4294967296) (r : List UInt8) : rdShw ⟨shwL a ++ r,false⟩ = (a,⟨r,false⟩) := by
 unfold rdShw shwL
 rw [List.append_assoc,rdT_put h1]
 dsimp only
 rw [rdT_put h2]
theorem timesR_put {α : Type} {item : RS → α × RS} {w : α → List UInt8} : ∀ (L : List α) (r : List UInt8),(∀ a ∈ L,∀ r,item ⟨w a ++ r,false⟩ = (a,⟨r,false⟩)) → timesR item L.length ⟨L.flatMap w ++ r,false⟩ = (L,⟨r,false⟩)
 | [],r,_ => rfl
 | a :: L,r,h => by
  have h1:=h a (by simp) (L.flatMap w ++ r)
  have h2:=timesR_put L r fun b hb => h b (by simp [hb])
  show (if (false:Bool)=true then _ else _)=_
  rw [if_neg (by simp),List.flatMap_cons,List.append_assoc,h1]
  dsimp only
  rw [h2]
theorem rdTimes_put {α : Type} {item : RS → α × RS} {w : α → List UInt8} (L : List α) (r : List UInt8) (hL : L.length ≤ 256) (h : ∀ a ∈ L,∀ r,item ⟨w a ++ r,false⟩ = (a,⟨r,false⟩)) : rdTimes item ⟨putB (L.length : Int) ++ (L.flatMap w ++ r),false⟩ = (L,⟨r,false⟩) := by
 unfold rdTimes
 rw [rdI_put (by omega) (by omega)]
 dsimp only
 rw [if_neg (by omega),Int.toNat_natCast]
 exact timesR_put L r h
def rs1 (b : ByteArray) : ByteArray × RS := rdT ⟨blOf b,false⟩
def rs2 (b : ByteArray) : Int × RS := rdI (rs1 b).2
def rs3 (b : ByteArray) : Int × RS := rdI (rs2 b).2
def rs4 (b : ByteArray) : List Ans × RS := rdTimes rdAns (rs3 b).2
def rs5 (b : ByteArray) : ByteArray × RS := rdT (rs4 b).2
def rs6 (b : ByteArray) : List Shw × RS := rdTimes rdShw (rs5 b).2
def rsS (b : ByteArray) : Stm := ⟨(rs1 b).1,(rs2 b).1,(rs3 b).1,(rs4 b).1,(parseC (blOf (rs5 b).1)).1,(rs6 b).1⟩
def rsOk (b : ByteArray) : Prop := (rs6 b).2.bad = false ∧ (parseC (blOf (rs5 b).1)).2.2 = 0 ∧ bytZ (rsS b) = 0 ∧ bytS (rsS b) = b
theorem bytZ_parts {s : Stm} (h : bytZ s = 0) : (rootF s.cond).isSome = true ∧ max s.ans.length s.shw.length ≤ 256 ∧ (stmW s).length ≤ 16384 ∧ bytS s = bO (stmW s) := by
 unfold bytZ at h
 by_cases h1:(rootF s.cond).isSome=true
 ·rw [if_pos h1] at h
  by_cases h2:max s.ans.length s.shw.length ≤ 256
  ·rw [if_pos h2] at h
   by_cases h3:(stmW s).length ≤ 16384
   ·refine ⟨h1,h2,h3,?_⟩
    unfold bytS
    rw [if_pos h1,if_pos h2,if_pos h3]
   ·rw [if_neg h3] at h; cases h
  ·rw [if_neg h2] at h; cases h
 ·rw [if_neg h1] at h; cases h
theorem stmW_parts (s : Stm) : stmW s = textL s.resp ++ (putB s.dep ++ (putB s.day ++ (putB (s.ans.length : Int) ++ (s.ans.flatMap ansL ++ (textL (prnS s.cond) ++ (putB (s.shw.length : Int) ++ (s.shw.flatMap shwL ++ []))))))) := by
 unfold stmW stmC stmB stmA headL
 rw [List.take_length,List.take_length]
 simp only [List.append_assoc,List.append_nil]
theorem read_back (s : Stm) (hok : StmOk s) (hz : bytZ s = 0) (hk : ∀ t ∈ s.cond,KitT t) : rsS (bytS s) = s ∧ rsOk (bytS s) := by
 obtain ⟨h1,h2,h3,h4⟩:=bytZ_parts hz
 have hb:blOf (bytS s)=stmW s:=by rw [h4]; rfl
 have hans:∀ a ∈ s.ans,∀ r,rdAns ⟨ansL a ++ r,false⟩=(a,⟨r,false⟩):=fun a ha r => by
  obtain ⟨k,hkl,rfl⟩:=List.mem_iff_getElem.1 ha
  have e:ansAt s.ans k=s.ans[k]:=by unfold ansAt; rw [List.getD_eq_getElem?_getD,List.getElem?_eq_getElem hkl]; rfl
  have:=hok.ans k hkl
  rw [e] at this
  exact rdAns_put (by omega) (by omega) this.2.2 r
 have hshw:∀ a ∈ s.shw,∀ r,rdShw ⟨shwL a ++ r,false⟩=(a,⟨r,false⟩):=fun a ha r => by
  obtain ⟨k,hkl,rfl⟩:=List.mem_iff_getElem.1 ha
  have e:shwAt s.shw k=s.shw[k]:=by unfold shwAt; rw [List.getD_eq_getElem?_getD,List.getElem?_eq_getElem hkl]; rfl
  have:=hok.shw k hkl
  rw [e] at this
  exact rdShw_put (by omega) (by omega) r
 have hp:=prnS_size s.cond
 have e1:rs1 (bytS s)=(s.resp,⟨putB s.dep ++ (putB s.day ++ (putB (s.ans.length:Int) ++ (s.ans.flatMap ansL ++ (textL (prnS s.cond) ++ (putB (s.shw.length:Int) ++ (s.shw.flatMap shwL ++ [])))))),false⟩):=by
  unfold rs1; rw [hb,stmW_parts]; exact rdT_put (by have:=hok.resp; omega) _
 have e2:rs2 (bytS s)=(s.dep,⟨putB s.day ++ (putB (s.ans.length:Int) ++ (s.ans.flatMap ansL ++ (textL (prnS s.cond) ++ (putB (s.shw.length:Int) ++ (s.shw.flatMap shwL ++ []))))),false⟩):=by
  unfold rs2; rw [e1]; exact rdI_put hok.dep.1 hok.dep.2 _
 have e3:rs3 (bytS s)=(s.day,⟨putB (s.ans.length:Int) ++ (s.ans.flatMap ansL ++ (textL (prnS s.cond) ++ (putB (s.shw.length:Int) ++ (s.shw.flatMap shwL ++ [])))),false⟩):=by
  unfold rs3; rw [e2]; exact rdI_put hok.day.1 hok.day.2 _
 have e4:rs4 (bytS s)=(s.ans,⟨textL (prnS s.cond) ++ (putB (s.shw.length:Int) ++ (s.shw.flatMap shwL ++ [])),false⟩):=by
  unfold rs4; rw [e3]; exact rdTimes_put s.ans _ (by omega) hans
 have e5:rs5 (bytS s)=(prnS s.cond,⟨putB (s.shw.length:Int) ++ (s.shw.flatMap shwL ++ []),false⟩):=by
  unfold rs5; rw [e4]; exact rdT_put (by omega) _
 have e6:rs6 (bytS s)=(s.shw,⟨[],false⟩):=by
  unfold rs6; rw [e5]; exact rdTimes_put s.shw [] (by omega) hshw
 have ep:parseC (blOf (prnS s.cond))=(s.cond,0,0):=by
  obtain ⟨T,hT⟩:=Option.isSome_iff_exists.1 h1
  have:=back_same hT hk
  unfold prnS
  rw [hT]
  exact this
 have eS:rsS (bytS s)=s:=by
  unfold rsS
  rw [e1,e2,e3,e4,e5,e6,ep]
 refine ⟨eS,?_⟩
 unfold rsOk
 rw [eS,e6,e5,ep]
 exact ⟨rfl,rfl,hz,rfl⟩
def numV (b : ByteArray) (p : Nat) : Int := match numR 0 0 ((blOf b).drop p) with | .ok (U,_) => unz U | .error _ => 0
def numP (b : ByteArray) (p : Nat) : Nat := match numR 0 0 ((blOf b).drop p) with | .ok (_,m) => p + m | .error _ => p
def numZ (b : ByteArray) (p : Nat) : Int := match numR 0 0 ((blOf b).drop p) with | .ok _ => 0 | .error z => z
def NumE (b : ByteArray) (p : Nat) (w : World) (e : Ending) (w' : World) : Prop := e = .returned (.tuple #[.int .i64 (numV b p),.int .i64 (numP b p : Int),.int .i64 (numZ b p)]) ∧ w = w'
theorem NumE.bad {b : ByteArray} {p : Nat} {z : Int} {w : World} (h : numR 0 0 ((blOf b).drop p) = .error z) : NumE b p w (.returned (.tuple #[.int .i64 0,.int .i64 (p : Int),.int .i64 z])) w := by
 unfold NumE numV numP numZ; rw [h]; exact ⟨rfl,rfl⟩
theorem NumE.good {b : ByteArray} {p U m : Nat} {w : World} (h : numR 0 0 ((blOf b).drop p) = .ok (U,m)) : NumE b p w (.returned (.tuple #[.int .i64 (unz U),.int .i64 ((p + m : Nat) : Int),.int .i64 0])) w := by
 unfold NumE numV numP numZ; rw [h]; exact ⟨rfl,rfl⟩
theorem or_low (u x i : Nat) (hu : u < 128 ^ i) : u ||| x * 128 ^ i = u + x * 128 ^ i := by
 have e:(128:Nat) ^ i=2 ^ (7*i):=by rw [show (128:Nat)=2 ^ 7 by decide,← Nat.pow_mul]
 rw [e] at hu ⊢
 rw [Nat.or_comm,Nat.mul_comm x,← Nat.two_pow_add_eq_or_of_lt hu,Nat.add_comm]
theorem or_u64 (u c i : Nat) (hu : u < 128 ^ i) (hi : i ≤ 8 ∨ c % 128 ≤ 1 ∧ i = 9) : bits .or .u64 (u : Int) (IntKind.u64.wrap ((c : Int) % 128 * 2 ^ (7 * i))) = ((u + c % 128 * 128 ^ i : Nat) : Int) := by
 have e2:(2:Nat) ^ (7*i)=128 ^ i:=by rw [show (128:Nat)=2 ^ 7 by decide,← Nat.pow_mul]
 have h1:c % 128*128 ^ i+u < 18446744073709551616:=by
  rcases hi with hi | ⟨hc,rfl⟩
  ·have h3:c % 128*128 ^ i ≤ 127*128 ^ i:=Nat.mul_le_mul_right _ (by omega)
   have h4:(128:Nat) ^ i ≤ 128 ^ 8:=Nat.pow_le_pow_right (by decide) hi
   have e8:(128:Nat) ^ 8=72057594037927936:=by decide
   omega
  ·have e9:(128:Nat) ^ 9=9223372036854775808:=by decide
   rw [e9] at hu ⊢
   have:c % 128*9223372036854775808 ≤ 1*9223372036854775808:=Nat.mul_le_mul_right _ hc
   omega
 have ex:(c:Int) % 128*2 ^ (7*i)=((c % 128*128 ^ i:Nat):Int):=by rw [← e2]; push_cast; rfl
 rw [ex]
 obtain ⟨x,hx⟩:∃ x,c % 128*128 ^ i=x:=⟨_,rfl⟩
 have ho:=or_low u (c % 128) i hu
 rw [hx] at ho h1 ⊢
 have ew:IntKind.u64.wrap (x:Int)=(x:Int):=by rw [IntKind.wrap_u64]; omega
 rw [ew]
 have ha:u % 2 ^ IntKind.u64.bits=u:=Nat.mod_eq_of_lt (by show u < 18446744073709551616; omega)
 have hb:x % 2 ^ IntKind.u64.bits=x:=Nat.mod_eq_of_lt (by show x < 18446744073709551616; omega)
 simp only [bits,BitVec.ofInt_natCast,BitVec.toNat_or,BitVec.toNat_ofNat,ha,hb,ho]
 rw [IntKind.wrap_u64]
 omega
theorem unz_bits (U : Nat) (hU : U < 18446744073709551616) : bits .xor .i64 (wrap64 ((U : Int) / 2)) (wrap64 (-wrap64 (bits .and .u64 (U : Int) 1))) = unz U := by
 have ha:bits .and .u64 (U:Int) 1=((U % 2:Nat):Int):=by
  have h1:U % 2 ^ IntKind.u64.bits=U:=Nat.mod_eq_of_lt hU
  have h2:(1:Int)=((1:Nat):Int):=rfl
  rw [h2]
  have h3:(1:Nat) % 2 ^ IntKind.u64.bits=1:=by decide
  simp only [bits,BitVec.ofInt_natCast,BitVec.toNat_and,BitVec.toNat_ofNat,h1,h3,Nat.and_one_is_mod]
  rw [IntKind.wrap_u64]
  omega
 rw [ha]
 have hw:wrap64 ((U:Int) / 2)=((U / 2:Nat):Int):=by
  rw [show (U:Int) / 2=((U / 2:Nat):Int) by omega]
  exact IntWalk.wrap64_in ((U / 2:Nat):Int) ⟨by omega,by omega⟩
 rw [hw]
 unfold unz
 have hb:U / 2 % 2 ^ IntKind.i64.bits=U / 2:=Nat.mod_eq_of_lt (by show U / 2 < 18446744073709551616; omega)
 by_cases h:U % 2=1
 ·rw [if_pos h,h]
  have e1:wrap64 (-wrap64 ((1:Nat):Int)) = -1:=by kernel_rfl
  rw [e1]
  have hn:(BitVec.ofInt 64 (-1))=BitVec.allOnes 64:=by decide
  have hx:(BitVec.ofNat 64 (U / 2) ^^^ BitVec.allOnes 64).toNat=18446744073709551615 - U / 2:=by
   rw [BitVec.xor_allOnes,BitVec.toNat_not,BitVec.toNat_ofNat,Nat.mod_eq_of_lt (by omega)]
  show IntKind.i64.wrap ((BitVec.ofInt 64 ((U / 2:Nat):Int) ^^^ BitVec.ofInt 64 (-1)).toNat:Int)=_
  rw [hn,BitVec.ofInt_natCast,hx,IntKind.wrap_i64]
  omega
 ·have h0:U % 2=0:=by omega
  rw [if_neg h,h0]
  have e1:wrap64 (-wrap64 ((0:Nat):Int))=0:=by kernel_rfl
  rw [e1]
  have hn:(BitVec.ofInt 64 0)=0#64:=by decide
  show IntKind.i64.wrap ((BitVec.ofInt 64 ((U / 2:Nat):Int) ^^^ BitVec.ofInt 64 0).toNat:Int)=_
  rw [hn,BitVec.xor_zero,BitVec.ofInt_natCast,BitVec.toNat_ofNat,Nat.mod_eq_of_lt (by omega),IntKind.wrap_i64]
  omega
set_option maxRecDepth 100000 in
set_option maxHeartbeats 1000000 in
theorem c_number (b : ByteArray) (p : Nat) (w : World) (hb : b.size ≤ 1000000) (hp : p ≤ b.size) : Calls Tryz.prog 126 #[.string b,.int .i64 (p : Int)] w (NumE b p w) := by
 go_enter Tryz.func126,Tryz.ntmps126
 go_wp2_with fail
 go_loopw [7,8,9,10,33,41,44] (fun v7 _ _ v10 _ _ _ wr => ∃ i u:Nat,i ≤ 9 ∧ v10=.int .i64 (i:Int) ∧ v7=.int .u64 (u:Int) ∧ u < 128 ^ i ∧ p+i ≤ b.size ∧ numR 0 0 ((blOf b).drop p)=numR i u ((blOf b).drop (p+i)) ∧ w=wr) (fun _ _ _ v10 _ _ _ _ => 10 - (intOf v10).toNat)
 case atStart => exact ⟨0,0,by omega,rfl,rfl,by decide,by omega,rfl,rfl⟩
 case round =>
  obtain ⟨i,u,hi,rfl,rfl,hu,hpi,hR,rfl⟩:=hrel
  have HR:=Lib.hid hR
  have HU:=Lib.hid hu
  clear hR hu
  have zi:(i:Int) < 10:=by omega
  obtain ⟨q,hq⟩:∃ q,p+i=q:=⟨_,rfl⟩
  rw [hq] at hpi HR
  have hqi:(p:Int)+(i:Int)=(q:Int):=by omega
  have HQ:=Lib.hid hq
  clear hq
  by_cases hlt:q < b.size
  ·have z1:¬ (b.size:Int) ≤ (q:Int):=by omega
   have zq:(0:Int) ≤ (q:Int):=by omega
   have zr:(q:Int) < (b.size:Int):=by omega
   have hd:=drop_cons hlt
   rw [hd] at HR
   have hsucc:p+(i+1)=q+1:=by have:=HQ.out; omega
   obtain ⟨c,hc⟩:∃ c,b[q].toNat=c:=⟨_,rfl⟩
   have hc6:c < 256:=by rw [← hc]; exact b[q].toNat_lt
   have HSUC:=Lib.hid hsucc
   have HD:=Lib.hid hd
   clear hsucc hd
   by_cases hbad:(i=9 ∧ 1 < c) ∨ (0 < i ∧ c=0)
   ·have hr:numR i u (b[q] :: List.drop (q+1) (blOf b))=.error 4:=by
     show (if (i=9 ∧ 1 < b[q].toNat) ∨ (0 < i ∧ b[q].toNat=0) then _ else _)=_
     rw [hc,if_pos hbad]
    have HRB:=Lib.hid (HR.out.trans hr)
    clear hr HR HU
    by_cases h9:i=9 ∧ 1 < c
    ·have y1:((i:Int) == 9)=true:=by rw [beq_iff_eq]; omega
     have y2:(1:Int) < (b[q].toNat:Int):=by omega
     clear hc hbad h9
     go_wp2_with fail
     go_ret3
     exact NumE.bad HRB.out
    ·have y0:0 < i ∧ c=0:=by omega
     have y2:¬ (1:Int) < (b[q].toNat:Int):=by omega
     have y3:¬ (128:Int) ≤ (b[q].toNat:Int):=by omega
     have y4:((b[q].toNat:Int) == 0)=true:=by rw [beq_iff_eq]; omega
     have y5:(0:Int) < (i:Int):=by omega
     clear hc hbad h9 y0
     by_cases h8:i=9
     ·have y1:((i:Int) == 9)=true:=by rw [beq_iff_eq]; omega
      clear h8
      go_wp2_with fail
      go_ret3
      exact NumE.bad HRB.out
     ·have y1:((i:Int) == 9)=false:=by rw [beq_eq_false_iff_ne]; omega
      clear h8
      go_wp2_with fail
      go_ret3
      exact NumE.bad HRB.out
   ·have hor:=or_u64 u c i HU.out (by omega)
    obtain ⟨U,hU⟩:∃ U,u+c % 128*128 ^ i=U:=⟨_,rfl⟩
    have hr:numR i u (b[q] :: List.drop (q+1) (blOf b))=if 128 ≤ c then numR (i+1) U (List.drop (q+1) (blOf b)) else .ok (U,i+1):=by
     show (if (i=9 ∧ 1 < b[q].toNat) ∨ (0 < i ∧ b[q].toNat=0) then _ else if 128 ≤ b[q].toNat then _ else _)=_
     rw [hc,if_neg hbad,hU]
    rw [hU,← hc] at hor
    by_cases hmore:128 ≤ c
    ·rw [if_pos hmore] at hr
     have h9:i ≠ 9:=fun e => hbad (.inl ⟨e,by omega⟩)
     have hUl:U < 128 ^ (i+1):=by
      rw [← hU,Nat.pow_succ]
      have h3:c % 128*128 ^ i ≤ 127*128 ^ i:=Nat.mul_le_mul_right _ (by omega)
      have:=HU.out
      omega
     have HRB:=Lib.hid (HR.out.trans hr)
     have HUL:=Lib.hid hUl
     have y1:((i:Int) == 9)=false:=by rw [beq_eq_false_iff_ne]; omega
     have y3:(128:Int) ≤ (b[q].toNat:Int):=by omega
     have hi8:i ≤ 8:=by omega
     clear hc hbad hr hU hUl h9 HR HU
     go_wp2_with fail
     go_roundw
     case measure => simp [intOf]; omega
     case rel => exact ⟨i+1,U,by omega,by go_num,rfl,HUL.out,by rw [HSUC.out]; omega,by rw [HSUC.out]; exact HRB.out,by first | rfl | trivial⟩
    ·rw [if_neg hmore] at hr
     have hb9:=numR_bound [b[q]] i u U (i+1) (by
      show (if (i=9 ∧ 1 < b[q].toNat) ∨ (0 < i ∧ b[q].toNat=0) then _ else if 128 ≤ b[q].toNat then _ else _)=_
      rw [hc,if_neg hbad,if_neg hmore,hU]) hi HU.out
     have hxx:=unz_bits U hb9.1
     have HRB:=Lib.hid (NumE.good (w:=w) (HR.out.trans hr))
     have y3:¬ (128:Int) ≤ (b[q].toNat:Int):=by omega
     have hz0:i=0 ∨ c ≠ 0:=by omega
     have hz9:i=9 → c ≤ 1:=by omega
     obtain ⟨V,hV⟩:∃ V,unz U=V:=⟨_,rfl⟩
     rw [hV] at hxx HRB
     have hpe:p+(i+1)=q+1:=HSUC.out
     rw [hpe] at HRB
     clear hbad hr hU hb9 HR HU hV hpe
     rcases hz0 with hz | hz
     ·have y1:((i:Int) == 9)=false:=by rw [beq_eq_false_iff_ne]; omega
      have y2:¬ (0:Int) < (i:Int):=by omega
      by_cases h0:c=0
      ·have y4:((b[q].toNat:Int) == 0)=true:=by rw [beq_iff_eq]; omega
       clear hc hz hz9 h0
       go_wp2_with fail
       go_ret3
       exact HRB.out
      ·have y4:((b[q].toNat:Int) == 0)=false:=by rw [beq_eq_false_iff_ne]; omega
       clear hc hz hz9 h0
       go_wp2_with fail
       go_ret3
       exact HRB.out
     ·have y4:((b[q].toNat:Int) == 0)=false:=by rw [beq_eq_false_iff_ne]; omega
      by_cases h9:i=9
      ·have y1:((i:Int) == 9)=true:=by rw [beq_iff_eq]; omega
       have y2:¬ (1:Int) < (b[q].toNat:Int):=by have:=hz9 h9; omega
       clear hc hz hz9 h9
       go_wp2_with fail
       go_ret3
       exact HRB.out
      ·have y1:((i:Int) == 9)=false:=by rw [beq_eq_false_iff_ne]; omega
       clear hc hz hz9 h9
       go_wp2_with fail
       go_ret3
       exact HRB.out
  ·have z1:(b.size:Int) ≤ (q:Int):=by omega
   have hd:(blOf b).drop q = []:=List.drop_eq_nil_of_le (by rw [blOf_len]; omega)
   rw [hd] at HR
   clear hd
   go_wp2_with fail
   go_ret3
   exact NumE.bad HR.out
end Go.Proofs.YtgdngfdeeadlnaaGreatDoor
