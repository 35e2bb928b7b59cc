/- Contracts: a certain word is taken; a number is taken. And more. -/
import Derived.Test.YtgdngfdeeadlnaaGreatDoorZ16
import Derived.Test.YtgdngfdeeadlnaaGreatDoorZ09
set_option linter.unusedVariables false
set_option linter.unusedSimpArgs false
namespace Go.Proofs.YtgdngfdeeadlnaaGreatDoor
open Go.RowKit Num
def GoPost (w : World) (rb : Nat) (s : ByteArray) (r : List UInt8) (o : Option (List UInt8 × List UInt8)) (e : Ending) (w' : World) : Prop :=
 w.grownBy w' (some rb) ∧ match o with
  | none => e=.panicked (wrongCh (posR s r:Int))
  | some (_,q) => e=.returned (.tuple #[]) ∧ Rd w' rb s q
theorem Rd.below {w w' : World} {rb : Nat} {s : ByteArray} {r : List UInt8} (h : Rd w rb s r) (hb : Below w.heap.size w w') : Rd w' rb s r := h.keep (hb.block rb h.lt)
set_option maxRecDepth 100000 in
set_option maxHeartbeats 2000000 in
theorem f_exactly (rb : Nat) (c : List UInt8) (s : ByteArray) (r : List UInt8) (w : World) (hr : Rd w rb s r) (hs : s.size ≤ 100000) (hl : ParOk w) :
  Calls Tryz.prog 164 #[.pointer (some ⟨rb,0,none⟩),.string (bsOf c)] w (GoPost w rb s r (takeB (· == c) r)):=by
 have hb:Below w.heap.size w (w.alloc (.cells #[.string (bsOf c)] 9)):=(Below.refl _ _).alloc (Nat.le_refl _) _
 have h:=f_take1 rb 188 w.heap.size s r (· == c) (w.alloc (.cells #[.string (bsOf c)] 9)) (hr.below hb) hs (hl.later hb)
  (callFunc_body Tryz.func188 (by kernel_rfl) (by kernel_rfl)) (fun n _ => g_exact (wordB r) c w.heap.size _ (by show (w.alloc _).cell? _=_; simp))
 have H:=Lib.hid h
 have HB:=Lib.hid hb
 clear h hb hr hl
 cases ht:takeB (· == c) r with
 | none =>
  have HT:=Lib.hid ht
  clear ht
  go_enter Tryz.func164,Tryz.ntmps164
  go_wp2_with fail
  refine H.out.mono ?_
  rw [HT.out]
  rintro e w1 ⟨hg,rfl⟩
  go_wp2_with fail
  exact ⟨rfl,(only_of_below HB.out (some rb)).trans hg,rfl⟩
 | some o =>
  obtain ⟨x,q⟩:=o
  have HT:=Lib.hid ht
  clear ht
  go_enter Tryz.func164,Tryz.ntmps164
  go_wp2_with fail
  refine H.out.mono ?_
  rw [HT.out]
  rintro e w1 ⟨hg,rfl,hrd⟩
  have HRD:=Lib.hid hrd
  clear hrd
  go_wp2_with fail
  go_end0
  exact ⟨(only_of_below HB.out (some rb)).trans hg,rfl,HRD.out⟩
def NumPost (w : World) (rb : Nat) (s : ByteArray) (r : List UInt8) (o : Option (Int × List UInt8)) (e : Ending) (w' : World) : Prop :=
 w.grownBy w' (some rb) ∧ match o with
  | none => e=.panicked (wrongCh (posR s r:Int))
  | some (n,q) => e=.returned (.int .i64 n) ∧ Rd w' rb s q
theorem TabOk.grown {w w' : World} {row : Option Nat} (h : TabOk w) (hg : w.grownBy w' row) (hr : ∀ b,row = some b → 7 < b) : TabOk w' := by
 have e : Tryz.prog.globalNamed "internal/strconv.uint64pow10" = some 4 := by kernel_rfl
 have hlt:=tab_lt h
 unfold TabOk Lib.TabIs World.var? at h ⊢
 rw [e] at h ⊢
 simp only [Option.bind_some] at h ⊢
 rw [hg.block _ hlt (fun e' => by have:=hr _ e'.symm; omega)]
 exact h
theorem ParOk.grown {w w' : World} {row : Option Nat} (h : ParOk w) (hg : w.grownBy w' row) (hr : ∀ b,row = some b → 7 < b) : ParOk w' := by
 have hs:=h.size
 have key:∀ g,g ≤ 7 → w'.cell? ⟨g,0,none⟩=w.cell? ⟨g,0,none⟩:=fun g hg6 => World.cell?_of_block (hg.block g (by omega) (fun e => by have:=hr _ e.symm; omega))
 refine ⟨⟨h.tab.grown hg hr,?_,Nat.le_trans hs hg.size⟩,?_,?_⟩
 ·obtain ⟨m,e⟩:=h.most; exact ⟨m,(key _ (by decide)).trans e⟩
 ·obtain ⟨tp,p,e⟩:=h.err1; exact ⟨tp,p,(key _ (by decide)).trans e⟩
 ·obtain ⟨tp,p,e⟩:=h.err2; exact ⟨tp,p,(key _ (by decide)).trans e⟩
set_option maxRecDepth 100000 in
set_option maxHeartbeats 2000000 in
theorem f_number (rb : Nat) (s : ByteArray) (r : List UInt8) (w : World) (hr : Rd w rb s r) (h6 : 7 < rb) (hs : s.size ≤ 100000) (hl : ParOk w) :
  Calls Tryz.prog 163 #[.pointer (some ⟨rb,0,none⟩)] w (NumPost w rb s r (numF r)):=by
 have hrl:=hr.pos.2.2.2
 have hwl:=word_len r
 have h:=f_take rb 187 s r numB' w hr hs hl
  (callFunc_body Tryz.func187 (by kernel_rfl) (by kernel_rfl)) (fun n _ => g_num (wordB r) _ (by omega) (hl.grown (grown_drewN w n none) (fun b hb => by cases hb)))
 have H:=Lib.hid h
 have HL:=Lib.hid hl
 clear h hr hl
 cases ht:takeB numB' r with
 | none =>
  have e:numF r=none:=by unfold numF; rw [ht]
  have HT:=Lib.hid ht
  rw [e]
  clear ht e
  go_enter Tryz.func163,Tryz.ntmps163
  go_wp2_with fail
  refine H.out.mono ?_
  rw [HT.out]
  rintro e w1 ⟨hg,rfl⟩
  go_wp2_with fail
  exact ⟨rfl,hg,rfl⟩
 | some o =>
  obtain ⟨x,q⟩:=o
  obtain ⟨t1,t2,t3,t4⟩:=take_sp (a:=[]) ht
  obtain ⟨n,hn⟩:∃ n,isNumB x=some n:=by unfold numB' at t3; exact Option.isSome_iff_exists.1 t3
  have e:numF r=some (n,q):=by unfold numF; rw [ht]; simp only [hn]
  have hxl:x.length ≤ 100000:=by rw [t2]; omega
  have hat:Lib.atoiAll x=.ok n:=by
   unfold isNumB at hn
   split at hn
   ·rename_i v hv
    split at hn
    ·injection hn with hn; rw [hv,hn]
    ·cases hn
   ·cases hn
  have hsz:=bsOf_data' x
  have hs1:(bsOf x).size ≤ 1000000:=by omega
  have HT:=Lib.hid ht
  have HAT:=Lib.hid hat
  rw [e]
  clear ht e t1 t2 t3 t4 hn hat hsz
  go_enter Tryz.func163,Tryz.ntmps163
  go_wp2_with fail
  refine H.out.mono ?_
  rw [HT.out]
  rintro e w1 ⟨hg,rfl,hrd⟩
  have hl1:ParOk w1:=HL.out.grown hg (fun b hb => by injection hb with hb; omega)
  have HL1:=Lib.hid hl1
  have HRD:=Lib.hid hrd
  clear hrd hl1
  go_wp2_with fail
  refine (i_Atoi (bsOf x) _ hs1 HL1.out).mono ?_
  rw [blOf_bsOf]
  rintro e w2 (⟨v,hv,rfl,v1,v2,hb⟩ | ⟨hno,-⟩)
  ·obtain rfl:n=v:=by rw [HAT.out] at hv; injection hv
   clear hv
   go_wp2_with fail
   go_ret
   exact ⟨hg.trans (only_of_below hb (some rb)),rfl,HRD.out.below hb⟩
  ·exact absurd HAT.out (hno n)
def NewS (w w' : World) (c : Nat) : Prop := w.heap.size ≤ c ∧ c < w'.heap.size
def CondPost (w : World) (rb : Nat) (s : ByteArray) (f : Nat) (pr : PR) (e : Ending) (w' : World) : Prop :=
 w.grownBy w' (some rb) ∧ match pr with
  | .bad q => e=.panicked (wrongCh (posR s q:Int))
  | .ok [T] q => ∃ v,e=.returned v ∧ Rd w' rb s q ∧ TreeZ w' (NewS w w') f v T
  | .ok _ _ => False
def ArgsPost (w : World) (rb : Nat) (s : ByteArray) (f : Nat) (pr : PR) (e : Ending) (w' : World) : Prop :=
 w.grownBy w' (some rb) ∧ match pr with
  | .bad q => e=.panicked (wrongCh (posR s q:Int))
  | .ok xs q => ∃ v ps,e=.returned v ∧ Rd w' rb s q ∧ w'.ownsRow w.heap.size 138 1 v xs.length ps ∧ KidZ w' (NewS w w') f ps xs
abbrev tz (k n y : Int) (f x : ByteArray) (u : Value) : Array Value := #[.int .i64 k,.int .i64 n,.int .i64 y,.string f,.string x,.slice none 0 0,u]
theorem tz_tree {w w' : World} {bt f m : Nat} {k n y : Int} {fd x : ByteArray} {u : Value} {xs : List Tree} {ps : List Value} (hb : Blk w' bt 169 (tz k n y fd x u)) (hlo : w.heap.size ≤ bt)
  (ho:w'.ownsRow w.heap.size 138 1 u m ps) (hm:m=xs.length) (hk:KidZ w' (NewS w w') f ps xs):TreeZ w' (NewS w w') (f+1) (.pointer (some ⟨bt,0,none⟩)) (.node (mkT k n y fd x) xs):=by
 have hlt:=hb.lt
 obtain ⟨A,j,c,rfl,hn,hc⟩:∃ A j c,u=.slice A j c ∧ j=m ∧ j ≤ c:=by
  rcases ho.2 with ⟨h1,h2⟩ | ⟨g,cap,cur,h1,_,_,h2,_⟩
  ·exact ⟨_,_,_,h1,h2.symm,Nat.le_refl _⟩
  ·exact ⟨_,_,_,h1,rfl,h2⟩
 refine ⟨bt,rfl,⟨hlo,hlt⟩,⟨hb.cell 0,hb.cell 1,hb.cell 2,hb.cell 3,hb.cell 4,hb.cell 5,rfl⟩,A,j,c,hb.cell 6,by omega,hc,fun hpos => ?_⟩
 obtain ⟨g,cap,hv,_⟩:=ho.form (by omega)
 injection hv with h1 _ _
 subst h1
 have hg:=ho.lt g rfl
 refine ⟨g,0,rfl,hg,fun i t hx => ?_⟩
 obtain ⟨p,hp,ht⟩:=hk i t hx
 refine ⟨p,?_,ht⟩
 have:=ho.cells (g:=g) rfl i p hp
 rw [Nat.zero_add]
 have ha:(⟨g,0,none⟩:Addr).add i=⟨g,i,none⟩:=by unfold Addr.add; split <;> simp_all
 rwa [ha] at this
theorem tz_leaf {w w' : World} {bt f : Nat} {k n y : Int} {fd x : ByteArray} (hb : Blk w' bt 169 (tz k n y fd x (.slice none 0 0))) (hlo : w.heap.size ≤ bt) :
  TreeZ w' (NewS w w') (f+1) (.pointer (some ⟨bt,0,none⟩)) (.node (mkT k n y fd x) []) :=
 tz_tree (ps:=[]) hb hlo (World.ownsRow_nil _ _ _ _) rfl (fun i t hx => by simp at hx)
theorem kindB_le (w : List UInt8) : kindB w ≤ 8 := by
  have:∀ L:List (List UInt8),idxB w L < L.length:=by
    intro L
    induction L with
    | nil => simp [idxB]
    | cons x r ih => unfold idxB; split; · simp <;> omega
                     · split
                       · simp <;> omega
                       · simp <;> omega
  have:=this nmB
  show idxB w nmB ≤ 8
  have e:nmB.length=9:=rfl
  omega
end Go.Proofs.YtgdngfdeeadlnaaGreatDoor
