/- Contracts: the statement StatementValues. -/
import Derived.Test.YtgdngfdeeadlnaaGreatDoorZ29
import Derived.Test.YtgdngfdeeadlnaaGreatDoorZ31
import Derived.Test.YtgdngfdeeadlnaaGreatDoorZ32
import Derived.Test.YtgdngfdeeadlnaaGreatDoorZ35
import Derived.ArgAppend
set_option linter.unusedVariables false
set_option linter.unusedSimpArgs false
namespace Go.Proofs.YtgdngfdeeadlnaaGreatDoor
open Go.RowKit Num
set_option maxRecDepth 100000 in
set_option maxHeartbeats 400000 in
theorem sv_heavy (A : Option Addr) (n c : Nat) (m : Int) (w : World) (hl : ParOk w) (hn : n ≤ 9223372036854775807) (h5 : ¬ n ≤ 500) :
  Calls Tryz.prog 4 #[.slice A n c,.int .i64 m] w (AwkO w):=by
 have HL:=Lib.hid hl
 clear hl
 go_enter Tryz.func4,Tryz.ntmps4
 go_wp2_with fail
 refine (ckl_F A n c _ hn h5).mono ?_
 rintro e w1 ⟨rfl,rfl⟩
 go_wp2_with fail
 refine (aw_awake _ HL.out).mono ?_
 rintro e w2 ⟨rfl,hb2⟩
 have HB2:=Lib.hid hb2
 clear hb2
 go_wp2_with fail
 go_ret
 exact ⟨rfl,HB2.out⟩
def kndT (k : Int) : ByteArray := if k = 1 then ⟨#[116,101,120,116]⟩ else if k = 4 then ⟨#[119,111,114,100,115]⟩ else if k = 2 then ⟨#[51]⟩ else if k = 3 then ⟨#[50,48,48,48,45,48,50,45,50,57]⟩ else ⟨#[]⟩
theorem kndT_size (k : Int) : (kndT k).size ≤ 10 := by
 unfold kndT
 repeat' split
 all_goals decide
structure LvS (w W : World) (g : Nat) (L : List Ans) (v : Value) : Prop where
  old : Below w.heap.size w W
  blk : Blk W w.heap.size 29 #[.string ⟨#[120]⟩, .int .i64 0, .int .i64 0, v, .slice (some ⟨g, 0, none⟩) 1 1, .slice none 0 0]
  row : W.ownsRow w.heap.size 50 3 v L.length (ansC L)
section
variable {w W W' : World} {g : Nat} {L : List Ans} {v v2 : Value} {o : Obj}
theorem LvS.below (h : LvS w W g L v) (hb : Below W.heap.size W W') : LvS w W' g L v := by
 refine ⟨h.old.trans (hb.mono h.old.size),h.blk.below' hb h.blk.lt,h.row.kept (only_of_below hb none) ?_⟩
 rcases hq:v.ownBlock with _ | q
 ·exact .inl rfl
 ·exact .inr (by simp)
theorem LvS.alloc (h : LvS w W g L v) (o : Obj) : LvS w (W.alloc o) g L v := h.below (below_al' W o)
theorem LvS.push (h : LvS w W g L v) {a : Ans} (hown : W'.ownsRow w.heap.size 50 3 v2 (L.length + 1) (ansC L ++ [.string a.field,.string a.text,.int .i64 a.num])) (hg : (W.alloc o).grownBy W' v.ownBlock) :
  LvS w (W'.setCell ⟨w.heap.size,3,none⟩ v2) g (L ++ [a]) v2 ∧ W'.cell? ⟨w.heap.size,3,none⟩=some v ∧ W'.frozen? ⟨w.heap.size,3,none⟩=false:=by
 have hva:=own_above h.row h.blk (by decide)
 have hlt:=h.blk.lt
 have hsz:=hg.size
 simp only [World.size_alloc] at hsz
 have hvb:∀ q,v.ownBlock=some q → w.heap.size < q:=fun q hq => hva q hq
 have kl:∀ q,q ≤ w.heap.size → W'.heap[q]?=W.heap[q]?:=fun q hq => (hg.block q (by simp; omega) (fun e => by have:=hvb q e.symm; omega)).trans (Below.heap_alloc W o q (by omega))
 have hb:Blk W' w.heap.size 29 #[.string ⟨#[120]⟩,.int .i64 0,.int .i64 0,v,.slice (some ⟨g,0,none⟩) 1 1,.slice none 0 0]:=(kl _ (Nat.le_refl _)).trans h.blk
 have hset:W'.grownBy (W'.setCell ⟨w.heap.size,3,none⟩ v2) (some w.heap.size):=grown_setCell W' ⟨w.heap.size,3,none⟩ v2
 refine ⟨⟨⟨hset.os.trans (hg.os.trans h.old.os),hset.tape.trans (hg.tape.trans h.old.tape),hset.output.trans (hg.output.trans h.old.output),by have:=h.old.size; have:=hset.size; omega,fun q hq => ((hset.block q (by omega) (fun e => by injection e; omega)).trans (kl q (by omega))).trans (h.old.block q hq)⟩,hb.set_ 3 v2,?_⟩,(hb.cell 3).trans rfl,hb.frozen 3⟩
 rw [List.length_append,ansC_snoc]
 exact hown.kept hset (.inr fun e => by have:=own_above hown hb (by decide) _ e; omega)
end
theorem dayD_in {t : ByteArray} {n : Int} (h : dayD t = some n) : 0 ≤ n ∧ n ≤ 3652058 := by
 unfold dayD at h
 by_cases hp:Cal.prE t.data.toList=0
 ·rw [if_pos hp] at h
  injection h with h
  by_cases ht:Cal.IsText t.data.toList
  ·obtain ⟨k,hk,he⟩:=ht
   have:=(Cal.pr_t hk he).1
   rw [← h,this]
   exact hk
  ·have:=(Cal.pr_f ht).1
   rw [← h,this]
   decide
 ·rw [if_neg hp] at h; cases h
theorem valA_small {F : Fld} {t : ByteArray} {a : Ans} (h : valA dayD F t = some a) (ht : t.size ≤ 10) : a.text.size ≤ 10 ∧ In64' a.num := by
 unfold valA at h
 split at h
 ·cases hd:decV t.toList with
  | none => rw [hd] at h; simp at h
  | some n =>
   rw [hd] at h
   simp at h
   have hi:=(decV_spec hd).1
   unfold I64 at hi
   rw [← h]
   exact ⟨Nat.zero_le _,hi.1,by show n < _; omega⟩
 ·split at h
  ·cases hd:dayD t with
   | none => rw [hd] at h; simp at h
   | some n =>
    rw [hd] at h
    simp at h
    have hi:=dayD_in hd
    rw [← h]
    exact ⟨Nat.zero_le _,by show -9223372036854775808 ≤ n; omega,by show n < _; omega⟩
  ·injection h with h
   rw [← h]
   exact ⟨ht,by show In64' 0; decide⟩
theorem dec_three : decV (⟨#[51]⟩ : ByteArray).toList = some 3 := by
 rw [data_toList]
 exact decV_some (by unfold I64; decide) (by unfold Lib.itoa; rw [if_neg (by decide)]; exact Lib.decDigits_one (by decide))
theorem val_kind (F : Fld) : (valF dayD F (kndT F.kind)).2 = 0 → (valF dayD F (kndT F.kind)).1.field = F.name ∧ fitsF F (valF dayD F (kndT F.kind)).1 = true ∧ (valF dayD F (kndT F.kind)).1.text.size ≤ 10 ∧ In64' (valF dayD F (kndT F.kind)).1.num ∧ (F.kind = 2 → (valF dayD F (kndT F.kind)).1.num = 3) := fun h => by
 obtain ⟨h1,h2,h3⟩:=valF_ok h
 obtain ⟨h4,h5⟩:=valA_small h1 (kndT_size _)
 refine ⟨h2,h3,h4,h5,fun k => ?_⟩
 refine valF_num k ?_ h
 rw [k]
 exact dec_three
theorem headV_len (La : List Ans) (h : ∀ a ∈ La,a.field.size ≤ 100 ∧ a.text.size ≤ 10 ∧ In64' a.num) : ((La.flatMap ansL).length) ≤ La.length * 200 := by
 induction La with
 | nil => simp
 | cons a La ih =>
  have h1:=h a (by simp)
  have h2:=ih (fun x hx => h x (by simp [hx]))
  have e1:=textL_len a.field
  have e2:=textL_len a.text
  have p1:=putB_len (a.field.size:Int)
  have p2:=putB_len (a.text.size:Int)
  have p3:=putB_len a.num
  have e3:(ansL a).length=(textL a.field).length+(textL a.text).length+(putB a.num).length:=by unfold ansL; rw [List.length_append,List.length_append]
  rw [List.flatMap_cons,List.length_append,List.length_cons]
  omega
def stV (La : List Ans) : Stm := ⟨⟨#[120]⟩,0,0,La,[alwT],[]⟩
theorem stV_len {La : List Ans} (hl : La.length ≤ 4) (h : ∀ a ∈ La,a.field.size ≤ 100 ∧ a.text.size ≤ 10 ∧ In64' a.num) : (stmW (stV La)).length ≤ 16384 := by
 have hf:=headV_len La h
 have e1:=textL_len (⟨#[120]⟩:ByteArray)
 have e2:=textL_len (prnS [alwT])
 have p3:=putB_len (0:Int)
 have p4:=putB_len (La.length:Int)
 have hp:=prnS_size [alwT]
 have hz:(⟨#[120]⟩:ByteArray).size=1:=rfl
 have e:stmW (stV La)=(((textL ⟨#[120]⟩ ++ putB 0 ++ putB 0 ++ putB (La.length:Int)) ++ (La.take La.length).flatMap ansL) ++ textL (prnS [alwT]) ++ putB ((([] : List Shw).length:Nat):Int)) ++ ([] : List Shw).flatMap shwL:=rfl
 rw [e,List.take_length]
 simp only [List.length_append,List.flatMap_nil,List.length_nil]
 have p5:=putB_len (((0:Nat):Nat):Int)
 omega
theorem stV_byt {La : List Ans} (hl : La.length ≤ 4) (h : ∀ a ∈ La,a.field.size ≤ 100 ∧ a.text.size ≤ 10 ∧ In64' a.num) : bytS (stV La) = bO (stmW (stV La)) :=
 (bytS_good (s:=stV La) (by kernel_rfl) (by show max La.length 0 ≤ 256; omega) (stV_len hl h)).1
theorem stV_text (La : List Ans) : ∃ r,blOf (bO (stmW (stV La))) = textL ⟨#[120]⟩ ++ r := by
 refine ⟨putB 0 ++ (putB 0 ++ (putB (La.length:Int) ++ ((La.take La.length).flatMap ansL ++ (textL (prnS [alwT]) ++ (putB ((([] : List Shw).length:Nat):Int) ++ ([] : List Shw).flatMap shwL))))),?_⟩
 have e:stmW (stV La)=(((textL ⟨#[120]⟩ ++ putB 0 ++ putB 0 ++ putB (La.length:Int)) ++ (La.take La.length).flatMap ansL) ++ textL (prnS [alwT]) ++ putB ((([] : List Shw).length:Nat):Int)) ++ ([] : List Shw).flatMap shwL:=rfl
 rw [e]
 show (_:List UInt8)=_
 simp only [List.append_assoc]
 rfl
theorem stV_read (La : List Ans) : txtP (bO (stmW (stV La))) 0 = 2 ∧ txtZ (bO (stmW (stV La))) 0 = 0 := by
 obtain ⟨r,hr⟩:=stV_text La
 have h:txtR ((blOf (bO (stmW (stV La)))).drop 0)=.ok (blOf ⟨#[120]⟩,(textL ⟨#[120]⟩).length):=by
  rw [List.drop_zero,hr]
  exact txtR_put (by decide) r
 unfold txtP txtZ
 rw [h]
 have h2:(textL ⟨#[120]⟩).length=2:=by kernel_rfl
 exact ⟨by show 0+(textL ⟨#[120]⟩).length=2; omega,rfl⟩
theorem stV_ok {La : List Ans} (hl : La.length ≤ 4) (h : ∀ a ∈ La,a.field.size ≤ 100 ∧ a.text.size ≤ 10 ∧ In64' a.num) : StmOk (stV La) := by
 refine ⟨by show (1:Nat) ≤ _; omega,by show In64' 0; decide,by show In64' 0; decide,by show La.length ≤ _; omega,fun k hk => ?_,by show (0:Nat) ≤ _; omega,fun k hk => absurd hk (Nat.not_lt_zero _),by show (1:Nat) ≤ _; omega,fun t ht => aw_trm t ht⟩
 have hm:ansAt La k ∈ La:=by unfold ansAt; rw [List.getD_eq_getElem?_getD,List.getElem?_eq_getElem (show k < La.length from hk)]; exact List.getElem_mem _
 have:=h _ hm
 exact ⟨by show (ansAt La k).field.size ≤ _; omega,by show (ansAt La k).text.size ≤ _; omega,this.2.2⟩
structure LvG (Lf : List Fld) (La : List Ans) (k : Nat) : Prop where
  len : La.length ≤ k
  small : ∀ a ∈ La, a.field.size ≤ 100 ∧ a.text.size ≤ 10 ∧ In64' a.num
  good : La.length < k ∨ (La.length = k ∧ ∀ j, j < k → (ansAt La j).field = (fldAt Lf j).name ∧ fitsF (fldAt Lf j) (ansAt La j) = true)
theorem LvG.start (Lf : List Fld) : LvG Lf [] 0 := ⟨Nat.le_refl _,fun a ha => (by cases ha),.inr ⟨rfl,fun j hj => absurd hj (Nat.not_lt_zero _)⟩⟩
theorem LvG.skip {Lf : List Fld} {La : List Ans} {k : Nat} (h : LvG Lf La k) : LvG Lf La (k + 1) := ⟨Nat.le_succ_of_le h.len,h.small,.inl (Nat.lt_succ_of_le h.len)⟩
theorem LvG.snoc {Lf : List Fld} {La : List Ans} {k : Nat} {a : Ans} (h : LvG Lf La k) (hs : a.field.size ≤ 100 ∧ a.text.size ≤ 10 ∧ In64' a.num) (h1 : a.field = (fldAt Lf k).name) (h2 : fitsF (fldAt Lf k) a = true) : LvG Lf (La ++ [a]) (k + 1) := by
 refine ⟨by rw [List.length_append]; exact Nat.succ_le_succ h.len,fun x hx => ?_,?_⟩
 ·rcases List.mem_append.1 hx with hx | hx
  ·exact h.small x hx
  ·rw [List.mem_singleton.1 hx]; exact hs
 ·rcases h.good with hg | ⟨hl,hg⟩
  ·exact .inl (by rw [List.length_append]; exact Nat.succ_lt_succ hg)
  ·refine .inr ⟨by rw [List.length_append,hl]; rfl,fun j hj => ?_⟩
   by_cases e:j=k
   ·subst e
    have:ansAt (La ++ [a]) j=a:=by unfold ansAt; rw [List.getD_eq_getElem?_getD,List.getElem?_append_right (by omega),hl,Nat.sub_self]; rfl
    rw [this]; exact ⟨h1,h2⟩
   ·have:ansAt (La ++ [a]) j=ansAt La j:=by unfold ansAt; rw [List.getD_eq_getElem?_getD,List.getD_eq_getElem?_getD,List.getElem?_append_left (by omega)]
    rw [this]; exact hg j (by omega)
set_option maxRecDepth 100000 in
set_option maxHeartbeats 4000000 in
theorem sv_light (A : Option Addr) (n c : Nat) (m : Int) (w : World) (hl : ParOk w) (hsp : SpcOk w) (hn : n ≤ 9223372036854775807) (h5 : n ≤ 500) (har : ArgL w (.slice A n c)) :
  Calls Tryz.prog 4 #[.slice A n c,.int .i64 m] w (AwkO w):=by
 obtain ⟨i0,hi,hz0,hz1,hz2⟩:=info_parts infoAn
 have lib:∀ W,Below w.heap.size w W → ParOk W ∧ SpcOk W:=fun W hW => ⟨hl.later hW,spc_below hsp (by have:=hl.lib.size; show 0 < _; omega) hW⟩
 have HLB:=Lib.hid lib
 have HAR:=Lib.hid har
 clear hl hsp har lib
 go_enter Tryz.func4,Tryz.ntmps4
 go_wp2_with fail
 refine (ckl_T A n c _ hn h5).mono ?_
 rintro e w1 ⟨rfl,rfl⟩
 go_wp2_with fail
 refine (k_Roll _ _ HAR.out).mono ?_
 rintro e w3 ⟨rfl,hd3,hb3⟩
 have hdr:=hd3.lt
 obtain ⟨db,hdb⟩:∃ db,w.heap.size=db:=⟨_,rfl⟩
 try rw [hdb] at hd3
 try rw [hdb] at hdr
 try rw [hdb]
 have HBR:=Lib.hid hb3
 have HDR:=Lib.hid hd3
 clear hd3 hb3
 go_wp2_with fail
 refine (k_Form db w3 HDR.out).mono ?_
 rintro e w4 ⟨t,Af,nf,cf,Lf,rfl,hF,htz,hlf,hsf,hd4,hg4⟩
 have hz4:=hg4.size
 have hb4:Below w.heap.size w w4:=HBR.out.grown hg4 (by omega) (fun g hg => by injection hg; omega)
 have hb4a:=hb4.alloc hb4.size (.cells #[.string t,.slice Af nf cf] 37)
 have hfb:=Blk.new w4 37 #[.string t,.slice Af nf cf]
 have hF4:FldsAt (w4.alloc (.cells #[.string t,.slice Af nf cf] 37)) (fun b => b < w4.heap.size) (.slice Af nf cf) Lf:=(hF.mono (T:=fun b => b < w4.heap.size) fun b hb => hb.2).keep fun b hb => Below.heap_alloc w4 _ b hb
 have HFO:=Lib.hid (And.intro (show FormOk t Lf from ⟨by omega,by omega,fun k hk => (hsf k hk).ok⟩) (fld_all (P:=fun f => f.name.size ≤ maxLen ∧ f.opts.length ≤ 1000000) (fun k hk => ⟨by have:=(hsf k hk).1; unfold maxLen; omega,by have:=(hsf k hk).2.1; omega⟩)))
 have HSF:=Lib.hid hsf
 have HLF:=Lib.hid hlf
 clear hF htz hlf hsf hd4 hg4 HBR HDR hdb
 go_upto_region 5 with fail
 generalize w4.alloc (.cells #[.string t,.slice Af nf cf] 37)=w5 at hb4a hfb hF4 ⊢
 obtain ⟨fb,hfe⟩:∃ fb,w4.heap.size=fb:=⟨_,rfl⟩
 rw [hfe] at hfb hF4
 try rw [hfe]
 have K5:=Lib.hid (And.intro hb4a (And.intro hfb hF4))
 have up:∀ W,Below w5.heap.size w5 W → FldsAt W (· < W.heap.size) (.slice Af nf cf) Lf ∧ Blk W fb 37 #[.string t,.slice Af nf cf] ∧ ParOk W ∧ SpcOk W ∧ Below w.heap.size w W:=fun W hW => by
  have h1:=K5.out.1.trans (hW.mono K5.out.1.size)
  have h0:=K5.out.2.1.lt
  exact ⟨(K5.out.2.2.keep fun b hb => hW.block b (by omega)).mono fun b hb => by have:=hW.size; omega,K5.out.2.1.below' hW h0,(HLB.out _ h1).1,(HLB.out _ h1).2,h1⟩
 have HUP:=Lib.hid up
 have g0:=(hfb.cell 0).trans (show _=some (Value.string t) from rfl)
 have g1:=(hfb.cell 1).trans (show _=some (Value.slice Af nf cf) from rfl)
 have B5:=Lib.hid (Below.refl w5.heap.size w5)
 clear hb4 hb4a hfb hF4 hfe hz4 up
 go_wp2_with fail
 refine (r_ValidF t (.slice Af nf cf) Lf (· < w5.heap.size) w5 (HUP.out w5 B5.out).1 (fun b h => h) HFO.out.1 (HUP.out w5 B5.out).2.2.1.lib (HUP.out w5 B5.out).2.2.2.1).mono ?_
 rintro e w6 ⟨rfl,hb6⟩
 have B6:=Lib.hid hb6
 clear hb6 g0 g1
 have f0:=((HUP.out w6 B6.out).2.1.cell 0).trans (show _=some (Value.string t) from rfl)
 have f1:=((HUP.out w6 B6.out).2.1.cell 1).trans (show _=some (Value.slice Af nf cf) from rfl)
 cases hv:validB t Lf
 ·have hsv:=s_Value t ⟨#[119,104,97,116]⟩ ⟨#[120]⟩ (.slice Af nf cf) Lf w6 (HUP.out w6 B6.out).1 HFO.out.1 HFO.out.2 (HUP.out w6 B6.out).2.2.1 (by decide)
  rw [hv,valS_bad] at hsv
  have HSV:=Lib.hid hsv
  clear hsv
  go_wp2_with fail
  refine HSV.out.mono ?_
  rintro e w7 ⟨rfl,hb7⟩
  have hb7':=B6.out.trans (hb7.mono B6.out.size)
  have B7:=Lib.hid (hb7'.alloc hb7'.size (.cells #[.string ⟨#[]⟩,.string ⟨#[]⟩,.int .i64 0] 50))
  clear hb7 hb7' f0 f1
  go_wp2_with fail
  refine (aw_awake _ (HUP.out _ B7.out).2.2.1).mono ?_
  rintro e w8 ⟨rfl,hb8⟩
  have HB8:=Lib.hid ((HUP.out _ B7.out).2.2.2.2.trans (hb8.mono (HUP.out _ B7.out).2.2.2.2.size))
  clear hb8
  go_wp2_with fail
  go_ret
  exact ⟨rfl,HB8.out⟩
 ·go_wp2_with fail
  refine (l_always w6).mono ?_
  rintro e w7 ⟨g,rfl,hgb,hgl,hb7⟩
  have B7:=Lib.hid (B6.out.trans (hb7.mono B6.out.size))
  have hst:LvS w7 (w7.alloc (.cells #[.string ⟨#[120]⟩,.int .i64 0,.int .i64 0,.slice none 0 0,.slice (some ⟨g,0,none⟩) 1 1,.slice none 0 0] 29)) g [] (.slice none 0 0):=⟨below_al' w7 _,Blk.new w7 _ _,World.ownsRow_nil _ _ _ _⟩
  have HST:=Lib.hid hst
  have HGB:=Lib.hid hgb
  have hgs:=hgb.lt
  have f1':=((HUP.out w7 B7.out).2.1.alloc (.cells #[.string ⟨#[120]⟩,.int .i64 0,.int .i64 0,.slice none 0 0,.slice (some ⟨g,0,none⟩) 1 1,.slice none 0 0] 29))
  have f1:=(f1'.cell 1).trans (show _=some (Value.slice Af nf cf) from rfl)
  clear hst hb7 hgb f0 f1'
  go_wp2_with fail
  generalize w7.alloc (.cells #[.string ⟨#[120]⟩,.int .i64 0,.int .i64 0,.slice none 0 0,.slice (some ⟨g,0,none⟩) 1 1,.slice none 0 0] 29)=w8 at HST ⊢
  clear f1
  obtain ⟨Af',nf',cf',hfe,hnf,hnc,hfc⟩:=(HUP.out w7 B7.out).1
  injection hfe with e1 e2 e3
  subst e1 e2 e3
  have hnf4:nf ≤ 4:=by have:=HLF.out; omega
  have HNF:=Lib.hid hnf
  have HFC:=Lib.hid hfc
  clear hnf hnc hfc
  go_loopw [45] (fun v45 wr => ∃ (k:Nat) (La:List Ans) (v:Value),k ≤ nf ∧ v45=.int .i64 (k:Int) ∧ LvS w7 wr g La v ∧ LvG Lf La k) (fun v45 _ => nf - (intOf v45).toNat)
  case atStart => exact ⟨0,[],_,by omega,rfl,HST.out,LvG.start _⟩
  case round =>
   obtain ⟨k,La,v,hk,rfl,hS,hG⟩:=hrel
   rename World => wr
   have HS:=Lib.hid hS
   have HG:=Lib.hid hG
   obtain ⟨Av,cv,rfl⟩:=own_slice hS.row
   clear hS hG
   by_cases hlt:k < nf
   ·obtain ⟨b,off,rfl,hbs,hcc⟩:=HFC.out (by omega)
    have hf:=hcc k hlt
    have hkL:k < Lf.length:=by have:=HNF.out; omega
    obtain ⟨F,hFe⟩:∃ F,fldAt Lf k=F:=⟨_,rfl⟩
    rw [hFe] at hf
    obtain ⟨x0,x1,x2,x3,x4,vo,x5,ho⟩:=hf
    obtain ⟨Ao,no,co,rfl,-⟩:=id ho
    have e0:wr.cell? ⟨b,off+k*6,none⟩=_:=(HS.out.old.cell (p:=⟨b,off+k*6,none⟩) hbs).trans x0
    have e1:wr.cell? ⟨b,off+k*6+1,none⟩=_:=(HS.out.old.cell (p:=⟨b,off+k*6+1,none⟩) hbs).trans x1
    have e2:wr.cell? ⟨b,off+k*6+2,none⟩=_:=(HS.out.old.cell (p:=⟨b,off+k*6+2,none⟩) hbs).trans x2
    have e3:wr.cell? ⟨b,off+k*6+3,none⟩=_:=(HS.out.old.cell (p:=⟨b,off+k*6+3,none⟩) hbs).trans x3
    have e4:wr.cell? ⟨b,off+k*6+4,none⟩=_:=(HS.out.old.cell (p:=⟨b,off+k*6+4,none⟩) hbs).trans x4
    have e5:wr.cell? ⟨b,off+k*6+5,none⟩=_:=(HS.out.old.cell (p:=⟨b,off+k*6+5,none⟩) hbs).trans x5
    have zi:(k:Int) < (nf:Int):=by omega
    have z0:(0:Int) ≤ (k:Int):=by omega
    clear x0 x1 x2 x3 x4 x5 ho hcc
    go_upto_region 12 with fail
    have HX:=Lib.hid (HS.out.alloc (.cells #[.string F.name,.int .i64 F.kind,.bool F.need,.int .i64 F.least,.int .i64 F.most,.slice Ao no co] 58))
    have hxb:=Blk.new wr 58 #[.string F.name,.int .i64 F.kind,.bool F.need,.int .i64 F.least,.int .i64 F.most,.slice Ao no co]
    have hwb:Below w5.heap.size w5 wr:=B7.out.trans (HS.out.old.mono B7.out.size)
    have hs7x:=HS.out.blk.lt
    have hwx:=hwb.alloc hwb.size (.cells #[.string F.name,.int .i64 F.kind,.bool F.need,.int .i64 F.least,.int .i64 F.most,.slice Ao no co] 58)
    clear e0 e1 e2 e3 e4 e5 HS hwb
    generalize wr.alloc (.cells #[.string F.name,.int .i64 F.kind,.bool F.need,.int .i64 F.least,.int .i64 F.most,.slice Ao no co] 58)=wx at HX hxb hwx ⊢
    obtain ⟨xb,hxe⟩:∃ xb,wr.heap.size=xb:=⟨_,rfl⟩
    rw [hxe] at hxb hs7x
    try rw [hxe]
    clear hxe
    have f0:=((HUP.out wx hwx).2.1.cell 0).trans (show _=some (Value.string t) from rfl)
    have f1:=((HUP.out wx hwx).2.1.cell 1).trans (show _=some (Value.slice (some ⟨b,off,none⟩) nf cf) from rfl)
    have x0:=(hxb.cell 0).trans (show _=some (Value.string F.name) from rfl)
    have x1:=(hxb.cell 1).trans (show _=some (Value.int .i64 F.kind) from rfl)
    have HWX:=Lib.hid hwx
    have HXB:=Lib.hid hxb
    clear hwx hxb
    have hkd:In64' F.kind:=by have:=(HSF.out k hkL).ok; rw [hFe] at this; exact ⟨this.2.2.1,this.2.2.2.1⟩
    have hmm:=@run_makeMap Tryz.prog
    obtain ⟨W1,r1,h1,q1⟩:=(ISM.new wx).put (by decide) 1 (by decide) ⟨#[116,101,120,116]⟩ (by decide)
    obtain ⟨W2,r2,h2,q2⟩:=h1.put (by decide) 4 (by decide) ⟨#[119,111,114,100,115]⟩ (by decide)
    obtain ⟨W3,r3,h3,q3⟩:=h2.put (by decide) 2 (by decide) ⟨#[51]⟩ (by decide)
    obtain ⟨W4,r4,h4,q4⟩:=h3.put (by decide) 3 (by decide) ⟨#[50,48,48,48,45,48,50,45,50,57]⟩ (by decide)
    have hlk:=h4.look F.kind hkd
    have hkt:(if F.kind=3 then (⟨#[50,48,48,48,45,48,50,45,50,57]⟩:ByteArray) else if F.kind=2 then ⟨#[51]⟩ else if F.kind=4 then ⟨#[119,111,114,100,115]⟩ else if F.kind=1 then ⟨#[116,101,120,116]⟩ else ⟨#[]⟩)=kndT F.kind:=by
     unfold kndT
     by_cases k1:F.kind=1
     ·rw [k1]; rfl
     ·by_cases k4:F.kind=4
      ·rw [k4]; rfl
      ·by_cases k2:F.kind=2
       ·rw [k2]; rfl
       ·by_cases k3:F.kind=3
        ·rw [k3]; rfl
        ·simp only [k1,k2,k3,k4,if_false]
    rw [hkt] at hlk
    have hbw:Below wx.heap.size wx W4:=by
     have g4:(wx.alloc (.map #[] 0)).grownBy W4 (some wx.heap.size):=gb_trans q1 (gb_trans q2 (gb_trans q3 q4))
     exact (below_al' wx (.map #[] 0)).grown g4 (by rw [World.size_alloc]; omega) (fun g hg => by injection hg; omega)
    have HBW:=Lib.hid hbw
    have x1':=((HXB.out.below' hbw HXB.out.lt).cell 1).trans (show _=some (Value.int .i64 F.kind) from rfl)
    have hwx4:=HWX.out.trans (hbw.mono HWX.out.size)
    have hvl:=s_Value t F.name (kndT F.kind) (.slice (some ⟨b,off,none⟩) nf cf) Lf W4 (HUP.out W4 hwx4).1 HFO.out.1 HFO.out.2 (HUP.out W4 hwx4).2.2.1 (Nat.le_trans (kndT_size _) (by decide))
    have hvd:t.size ≤ 256 ∧ Lf.length ≤ 32 ∧ valK Lf Lf.length:=of_decide_eq_true hv
    have hfst:fstF Lf F.name=some k:=by rw [← hFe]; exact fstF_hit hkL rfl (hvd.2.2 k hkL).2
    rw [hv,valS_hit hfst,hFe] at hvl
    obtain ⟨kt,hkte⟩:∃ kt,kndT F.kind=kt:=⟨_,rfl⟩
    rw [hkte] at hlk hvl
    have HKT:=Lib.hid hkte
    have HVL:=Lib.hid hvl
    have HFE:=Lib.hid hFe
    have HKL:=Lib.hid hkL
    have HW4:=Lib.hid hwx4
    clear hkt h1 h2 h3 h4 q1 q2 q3 q4 hbw hwx4 hvl hvd hfst hkte hFe hkL x1
    have hvk:=val_kind F
    have hve:=valF_err (D:=dayD) (F:=F) (t:=kndT F.kind)
    rw [HKT.out] at hvk hve
    obtain ⟨rv,hrv⟩:∃ rv,valF dayD F kt=rv:=⟨_,rfl⟩
    rw [hrv] at hvk hve
    rw [hrv] at HVL
    have hfn:F.name.size ≤ 100:=by have:=(HSF.out k HKL.out).1; rw [HFE.out] at this; exact this
    clear hrv HKT
    go_wp2_with fail
    clear r1 r2 r3 r4 hlk hmm f0 f1 x0 x1'
    refine HVL.out.mono ?_
    rintro e w9 ⟨rfl,hb9⟩
    have hxw:Below wx.heap.size wx w9:=HBW.out.trans (hb9.mono HBW.out.size)
    have hS9:=HX.out.below hxw
    have hX9:=HXB.out.below' hxw HXB.out.lt
    have hs79:=hS9.blk.lt
    obtain ⟨⟨fl,tx,nu⟩,er⟩:=rv
    have hA:=Blk.new w9 50 #[.string fl,.string tx,.int .i64 nu]
    have hSa:=hS9.alloc (.cells #[.string fl,.string tx,.int .i64 nu] 50)
    have hXa:=hX9.alloc (.cells #[.string fl,.string tx,.int .i64 nu] 50)
    have hrl:∀ q,(Value.slice Av La.length cv).ownBlock=some q → q < w9.heap.size:=fun q hq => (hS9.row.lt q hq).2
    have hxl:∀ q,(Value.slice Av La.length cv).ownBlock=some q → q ≠ xb:=fun q hq e => by
     subst e
     exact absurd rfl (own_not hS9.row hX9 (by decide) _ hq)
    have HRL:=Lib.hid (And.intro hrl hxl)
    have HSA:=Lib.hid hSa
    have HAA:=Lib.hid hA
    have HXA:=Lib.hid hXa
    clear hb9 HVL HBW HX HXB hS9 hX9 hxw hrl hxl
    go_upto_region 13 with fail
    generalize w9.alloc (.cells #[.string fl,.string tx,.int .i64 nu] 50)=wa at HSA HAA HXA hA hXa hSa ⊢
    obtain ⟨ab,habe⟩:∃ ab,w9.heap.size=ab:=⟨_,rfl⟩
    rw [habe] at HAA HRL hA hs79
    try rw [habe]
    rcases hve with he | he
    ·obtain ⟨u1,u2,u3,u4,u5⟩:=hvk he
     have he':er=0:=he
     subst he'
     have v1:fl=F.name:=u1
     have v2:fitsF F ⟨fl,tx,nu⟩=true:=u2
     have v3:tx.size ≤ 10:=u3
     have v4:In64' nu:=u4
     have v5:F.kind=2 → nu=3:=u5
     clear u1 u2 u3 u4 u5
     clear he
     have hG2:=HG.out.snoc (a:=⟨fl,tx,nu⟩) ⟨by show fl.size ≤ 100; rw [v1]; exact hfn,v3,v4⟩ (by rw [HFE.out]; exact v1) (by rw [HFE.out]; exact v2)
     have HG2:=Lib.hid hG2
     have hlen:=HG.out.len
     have hkn:k < nf:=hlt
     have d0:=(hA.cell 0).trans (show _=some (Value.string fl) from rfl)
     have d1:=(hA.cell 1).trans (show _=some (Value.string tx) from rfl)
     have d2:=(hA.cell 2).trans (show _=some (Value.int .i64 nu) from rfl)
     have c3:=(hSa.blk.cell 3).trans (show _=some (Value.slice Av La.length cv) from rfl)
     have O1:=Lib.hid hSa.row
     have HV2:=Lib.hid (And.intro v1 v5)
     have nw:=World.news_of_block (cs:=#[.string fl,.string tx,.int .i64 nu]) (t:=50) (fr:=(0,0)) (heap_alloc_new wa (.cells #[.string fl,.string tx,.int .i64 nu] 50))
     have NW:=Lib.hid nw
     have hsl:=hSa.blk.lt
     clear nw hA hXa hSa hG2 v1 v2 v3 v4 v5 hvk
     go_wp2_with (at_builtin; refine wpList_append_own_at _ rfl _ _ 23 rfl w7.heap.size 50 i0 (.agg #[.string ⟨#[]⟩,.string ⟨#[]⟩,.int .i64 0]) 3 40 Tryz.underlying23 hi hz0 hz1 hz2 rfl (by decide) (.slice Av La.length cv) La.length (ansC La) rfl (O1.out.alloc _) ⟨wa.heap.size,0,none⟩ 1 1 [.string fl,.string tx,.int .i64 nu] rfl rfl NW.out (by intro u hu; simp at hu; rcases hu with rfl | rfl | rfl <;> rfl) (by unfold maxLen; omega) (by omega) (by rw [World.size_alloc]; omega) ?_)
     intro v2 w10 hown2 hgrow2 _ hat2
     obtain ⟨A2,cc2,hv2⟩:=own_slice hown2
     subst hv2
     have MO:=Lib.hid (HSA.out.push (a:=⟨fl,tx,nu⟩) hown2 hgrow2)
     have mc:=MO.out.2.1
     have mf:=MO.out.2.2
     have k10:∀ q,q < wa.heap.size → (Value.slice Av La.length cv).ownBlock ≠ some q → w10.heap[q]?=wa.heap[q]?:=fun q hq hne => (hgrow2.block q (by rw [World.size_alloc]; omega) (fun h => hne h.symm)).trans (Below.heap_alloc wa _ q hq)
     have hset:w10.grownBy (w10.setCell ⟨w7.heap.size,3,none⟩ (.slice A2 (La.length+1) cc2)) (some w7.heap.size):=grown_setCell w10 ⟨w7.heap.size,3,none⟩ _
     have hz10:=hgrow2.size
     rw [World.size_alloc] at hz10
     have hlab:=HAA.out.lt
     have hlxb:=HXA.out.lt
     have kA:Blk (w10.setCell ⟨w7.heap.size,3,none⟩ (.slice A2 (La.length+1) cc2)) ab 50 #[.string fl,.string tx,.int .i64 nu]:=((hset.block ab (by omega) (fun e => by injection e; omega)).trans (k10 ab hlab (fun h => by have:=HRL.out.1 _ h; omega))).trans HAA.out
     have kX:Blk (w10.setCell ⟨w7.heap.size,3,none⟩ (.slice A2 (La.length+1) cc2)) xb 58 #[.string F.name,.int .i64 F.kind,.bool F.need,.int .i64 F.least,.int .i64 F.most,.slice Ao no co]:=((hset.block xb (by omega) (fun e => by injection e; omega)).trans (k10 xb hlxb (fun h => HRL.out.2 _ h rfl))).trans HXA.out
     have KAX:=Lib.hid (And.intro kA kX)
     clear hown2 hgrow2 hat2 O1 HSA c3 d0 d1 d2 k10 hset kA kX HAA HXA hlab hlxb
     go_upto_region 15 with fail
     clear mc mf
     generalize w10.setCell ⟨w7.heap.size,3,none⟩ (.slice A2 (La.length+1) cc2)=w11 at MO KAX ⊢
     have a0:=(KAX.out.1.cell 0).trans (show _=some (Value.string fl) from rfl)
     have a2:=(KAX.out.1.cell 2).trans (show _=some (Value.int .i64 nu) from rfl)
     have b0:=(KAX.out.2.cell 0).trans (show _=some (Value.string F.name) from rfl)
     have b1:=(KAX.out.2.cell 1).trans (show _=some (Value.int .i64 F.kind) from rfl)
     have hfl:=HV2.out.1
     have h23:=Lib.hid HV2.out.2
     clear HV2
     subst hfl
     by_cases k2:F.kind=2
     ·have hn3:=h23.out k2
      rw [hn3] at a2
      have k2':(F.kind == (2:Int))=true:=by rw [k2]; rfl
      clear k2 hn3
      go_wp2_with fail
      go_roundw
      case measure => simp [intOf]; omega
      case rel => exact ⟨k+1,_,_,by omega,by go_num,MO.out.1,HG2.out⟩
     ·have k2':(F.kind == (2:Int))=false:=by simpa using k2
      clear k2
      go_wp2_with fail
      go_roundw
      case measure => simp [intOf]; omega
      case rel => exact ⟨k+1,_,_,by omega,by go_num,MO.out.1,HG2.out⟩
    ·have he2:er=13:=congrArg Prod.snd he
     subst he2
     clear he hvk hA hXa hSa
     go_wp2_with fail
     go_roundw
     case measure => simp [intOf]; omega
     case rel => exact ⟨k+1,_,_,by omega,by go_num,HSA.out,HG.out.skip⟩
   ·have zi:¬ (k:Int) < (nf:Int):=by omega
    have hlen:=HG.out.len
    have hL4:La.length ≤ 4:=Nat.le_trans hlen (Nat.le_trans hk hnf4)
    have hwb:Below w5.heap.size w5 wr:=B7.out.trans (HS.out.old.mono B7.out.size)
    have hgr:=HGB.out.below' HS.out.old HGB.out.lt
    have hSt:StmAt wr (· < wr.heap.size) (.slice Av La.length cv) (.slice (some ⟨g,0,none⟩) 1 1) (.slice none 0 0) (stV La):=⟨(AnssAt.of_own HS.out.row).mono fun q hq => hq.2,aw_at hgr hgr.lt,⟨none,0,0,rfl,rfl,Nat.le_refl _,fun h => absurd h (Nat.lt_irrefl _)⟩⟩
    have hso:=stV_ok hL4 HG.out.small
    have hby:=s_Bytes (stV La) Av (some ⟨g,0,none⟩) none La.length cv 1 1 0 0 (· < wr.heap.size) wr hSt (fun q hq => hq) hso (HUP.out wr hwb).2.2.1.lib
    unfold BytE at hby
    rw [stV_byt hL4 HG.out.small] at hby
    have hbz:(bO (stmW (stV La))).size ≤ 1000000:=by
     rw [bO_size]
     exact Nat.le_trans (stV_len hL4 HG.out.small) (by decide)
    have htx:=fun W => r_TextR (bO (stmW (stV La))) 0 W hbz (Nat.zero_le _)
    unfold TxtRE at htx
    rw [(stV_read La).1,(stV_read La).2] at htx
    obtain ⟨bs,hbs⟩:∃ bs,bO (stmW (stV La))=bs:=⟨_,rfl⟩
    rw [hbs] at hby htx
    generalize bytZ (stV La)=bz at hby
    generalize txtV bs 0=tv at htx
    have HBY:=Lib.hid hby
    have HTX:=Lib.hid htx
    have HSO:=Lib.hid hso
    have HST2:=Lib.hid hSt
    have HWB:=Lib.hid hwb
    have s0:=(HS.out.blk.cell 0).trans (show _=some (Value.string ⟨#[120]⟩) from rfl)
    have s1:=(HS.out.blk.cell 1).trans (show _=some (Value.int .i64 0) from rfl)
    have s2:=(HS.out.blk.cell 2).trans (show _=some (Value.int .i64 0) from rfl)
    have s3:=(HS.out.blk.cell 3).trans (show _=some (Value.slice Av La.length cv) from rfl)
    have s4:=(HS.out.blk.cell 4).trans (show _=some (Value.slice (some ⟨g,0,none⟩) 1 1) from rfl)
    have s5:=(HS.out.blk.cell 5).trans (show _=some (Value.slice none 0 0) from rfl)
    clear hby htx hso hSt hwb hgr hbs hbz
    go_wp2_with fail
    clear s0 s1 s2 s3 s4 s5
    refine HBY.out.mono ?_
    rintro e w12 ⟨rfl,hb12⟩
    have hS12:=HS.out.below hb12
    have hwb12:=HWB.out.trans (hb12.mono HWB.out.size)
    go_wp2_with fail
    refine (HTX.out w12).mono ?_
    rintro e w13 ⟨rfl,rfl⟩
    have f0:=((HUP.out w12 hwb12).2.1.cell 0).trans (show _=some (Value.string t) from rfl)
    have f1:=((HUP.out w12 hwb12).2.1.cell 1).trans (show _=some (Value.slice Af nf cf) from rfl)
    have s0:=(hS12.blk.cell 0).trans (show _=some (Value.string ⟨#[120]⟩) from rfl)
    have s1:=(hS12.blk.cell 1).trans (show _=some (Value.int .i64 0) from rfl)
    have s2:=(hS12.blk.cell 2).trans (show _=some (Value.int .i64 0) from rfl)
    have s3:=(hS12.blk.cell 3).trans (show _=some (Value.slice Av La.length cv) from rfl)
    have s4:=(hS12.blk.cell 4).trans (show _=some (Value.slice (some ⟨g,0,none⟩) 1 1) from rfl)
    have s5:=(hS12.blk.cell 5).trans (show _=some (Value.slice none 0 0) from rfl)
    have HW12:=Lib.hid hwb12
    by_cases hfew:La.length < nf
    ·have zf:(La.length:Int) < (nf:Int):=by omega
     clear hS12 hwb12 hb12
     go_wp2_with fail
     refine (aw_awake _ (HUP.out w12 HW12.out).2.2.1).mono ?_
     rintro e w14 ⟨rfl,hb14⟩
     have HB14:=Lib.hid ((HUP.out w12 HW12.out).2.2.2.2.trans (hb14.mono (HUP.out w12 HW12.out).2.2.2.2.size))
     clear hb14
     go_wp2_with fail
     go_ret
     exact ⟨rfl,HB14.out⟩
    ·have zf:¬ (La.length:Int) < (nf:Int):=by omega
     have hall:La.length=Lf.length ∧ ∀ j,j < Lf.length → (ansAt La j).field=(fldAt Lf j).name ∧ fitsF (fldAt Lf j) (ansAt La j)=true:=by
      rcases HG.out.good with h | ⟨h1,h2⟩
      ·omega
      ·have hn:=HNF.out
       exact ⟨by omega,fun j hj => h2 j (by omega)⟩
     have hchk:=s_Check t (.slice Af nf cf) (.slice Av La.length cv) (.slice (some ⟨g,0,none⟩) 1 1) (.slice none 0 0) Lf (stV La) w12 (HUP.out w12 hwb12).1 HFO.out.1 HFO.out.2 ((HST2.out.keep fun q hq => hb12.block q hq).mono fun q hq => Nat.lt_of_lt_of_le hq hb12.size) HSO.out
     rw [show chkS t Lf (stV La)=0 from values_ok hv hall.1 hall.2] at hchk
     have HCK:=Lib.hid hchk
     clear hS12 hwb12 hb12 hall hchk
     go_wp2_with fail
     refine HCK.out.mono ?_
     rintro e w13 ⟨rfl,hb13⟩
     have hW13:=HW12.out.trans (hb13.mono HW12.out.size)
     have HW13:=Lib.hid hW13
     clear hW13 hb13 f0 f1 s0 s1 s2 s3 s4 s5
     go_wp2_with fail
     refine (aw_awake _ (HUP.out w13 HW13.out).2.2.1).mono ?_
     rintro e w14 ⟨rfl,hb14⟩
     have HB14:=Lib.hid ((HUP.out w13 HW13.out).2.2.2.2.trans (hb14.mono (HUP.out w13 HW13.out).2.2.2.2.size))
     clear hb14
     go_wp2_with fail
     go_ret
     exact ⟨rfl,HB14.out⟩
end Go.Proofs.YtgdngfdeeadlnaaGreatDoor
