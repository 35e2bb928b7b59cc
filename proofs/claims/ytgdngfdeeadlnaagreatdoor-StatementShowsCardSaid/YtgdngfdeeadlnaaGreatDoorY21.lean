/- Words for memory: a list of terms of one's own is a list of terms. And more. -/
import Derived.Test.YtgdngfdeeadlnaaGreatDoorY11
import Derived.Test.YtgdngfdeeadlnaaGreatDoorY20
import Derived.Test.YtgdngfdeeadlnaaGreatDoorY03
import Derived.Test.YtgdngfdeeadlnaaGreatDoorY06
import Derived.Deep.CutRange
import Derived.Deep.CutBlock
import Derived.Test.YtgdngfdeeadlnaaGreatDoorY12
import Derived.Test.YtgdngfdeeadlnaaGreatDoorY05
set_option linter.unusedVariables false
set_option linter.unusedSimpArgs false
namespace Go.Proofs.YtgdngfdeeadlnaaGreatDoor
open Go.RowKit Num
theorem own_ints {w : World} {B : Nat} {v : Value} {xs : List Int} (h : w.ownsRow B 3 1 v xs.length (xs.map (Value.int .i64))) : IntsAt w (fun b => B ≤ b ∧ b < w.heap.size) v xs := by
 rcases Nat.eq_zero_or_pos xs.length with h0 | h0
 ·rcases h.2 with ⟨rfl,_⟩ | ⟨g',cap,cur,rfl,_,_,h2,_⟩
  ·exact ⟨none,0,0,rfl,h0.symm,by omega,fun h1 => absurd h1 (by omega)⟩
  ·exact ⟨_,xs.length,cap,rfl,rfl,h2,fun h1 => absurd h1 (by omega)⟩
 ·obtain ⟨g,c,rfl,hg,hlt⟩:=h.form h0
  refine ⟨some ⟨g,0,none⟩,xs.length,c,rfl,rfl,?_,fun _ => ⟨g,0,rfl,⟨hg,hlt⟩,fun k hk => ?_⟩⟩
  ·rcases h.2 with ⟨h1,_⟩ | ⟨g',cap,cur,h1,_,_,h2,_⟩
   ·cases h1
   ·injection h1 with _ _ h1; omega
  ·rw [Nat.zero_add]
   exact own_cell h k _ (by rw [List.getElem?_map,List.getElem?_eq_getElem hk,List.getD_eq_getElem?_getD,List.getElem?_eq_getElem hk]; rfl)
theorem OwnTs.terms {w : World} {B : Nat} {v : Value} {L : List Trm} {us : Nat → Value} (h : OwnTs w B v L us) : TermsAt w (fun b => B ≤ b ∧ b < w.heap.size) v L := by
 rcases Nat.eq_zero_or_pos L.length with h0 | h0
 ·rcases h.row.2 with ⟨rfl,_⟩ | ⟨g',cap,cur,rfl,_,_,h2,_⟩
  ·exact ⟨none,0,0,rfl,h0.symm,by omega,fun h1 => absurd h1 (by omega)⟩
  ·exact ⟨_,L.length,cap,rfl,rfl,h2,fun h1 => absurd h1 (by omega)⟩
 ·obtain ⟨g,c,rfl,hg,hlt⟩:=h.row.form h0
  refine ⟨some ⟨g,0,none⟩,L.length,c,rfl,rfl,?_,fun _ => ⟨g,0,rfl,⟨hg,hlt⟩,fun k hk => ?_⟩⟩
  ·rcases h.row.2 with ⟨h1,_⟩ | ⟨g',cap,cur,h1,_,_,h2,_⟩
   ·cases h1
   ·injection h1 with _ _ h1; omega
  ·have hc:∀ i u,i < 6 → (tmCell (trmAt L k) (us k)).getD i undef=u → w.cell? ⟨g,0+k*6+i,none⟩=some u:=by
    intro i u hi hu
    rw [Nat.zero_add]
    exact own_cell h.row (k*6+i) u (by rw [tmsC_at L us k i hk hi,hu])
   refine ⟨hc 0 _ (by decide) rfl,hc 1 _ (by decide) rfl,hc 2 _ (by decide) rfl,hc 3 _ (by decide) rfl,hc 4 _ (by decide) rfl,us k,hc 5 _ (by decide) rfl,?_⟩
   exact own_ints (h.args k hk)
theorem k_grow : ∀ (d : Nat),d ≤ 9 → GrowC d := by
 intro d
 induction d with
 | zero => intro h; exact k_grow_step 0 h (fun d' e => by omega)
 | succ d ih => intro h; exact k_grow_step (d+1) h (fun d' e _ => by
   have h2:d=d':=by omega
   subst h2
   exact ih (by omega))
def CondE1 (w : World) (db d : Nat) (e : Ending) (w' : World) : Prop := ∃ A n c L,e = .returned (.agg #[.slice A n c]) ∧ TermsAt w' (fun b => w.heap.size ≤ b ∧ b < w'.heap.size) (.slice A n c) L ∧ L.length ≤ szK d ∧ (∀ t ∈ L,KitT t) ∧ Dc w' db ∧ w.grownBy w' (some db) ∧ 1 ≤ L.length
set_option maxRecDepth 100000 in
set_option maxHeartbeats 400000 in
theorem k_Condition1 (db d : Nat) (w : World) (hd : Dc w db) (h4 : d ≤ 5) : Calls Tryz.prog 34 #[.pointer (some ⟨db,0,none⟩),.int .i64 (d : Int)] w (CondE1 w db d) := by
 have hlt:=hd.lt
 have hsz:szK d ≤ 1000:=by
  have:d=0 ∨ d=1 ∨ d=2 ∨ d=3 ∨ d=4 ∨ d=5:=by omega
  rcases this with rfl | rfl | rfl | rfl | rfl | rfl <;> decide
 have HD:=Lib.hid hd
 have HSZ:=Lib.hid hsz
 clear hd hsz
 go_enter Tryz.func34,Tryz.ntmps34
 go_wp2_with fail
 have hb0:Blk ((w.alloc (.cells #[.slice none 0 0] 26)).alloc (.cells #[.slice none 0 0] 26)) w.heap.size 26 #[.slice none 0 0]:=(Blk.new w _ _).alloc _
 have hb1:Blk ((w.alloc (.cells #[.slice none 0 0] 26)).alloc (.cells #[.slice none 0 0] 26)) (w.heap.size+1) 26 #[.slice none 0 0]:=by
  have:=Blk.new (w.alloc (.cells #[.slice none 0 0] 26)) 26 #[.slice none 0 0]
  rwa [World.size_alloc] at this
 have HB0:=Lib.hid hb0
 have hbw:Below w.heap.size w ((w.alloc (.cells #[.slice none 0 0] 26)).alloc (.cells #[.slice none 0 0] 26)):=((Below.refl _ _).alloc (Nat.le_refl _) _).alloc (by simp) _
 have HBW:=Lib.hid hbw
 refine (k_grow d (by omega) _ db (w.heap.size+1) w.heap.size (.slice none 0 0) [] (fun _ => undef) ((HD.out.alloc _).alloc _) hlt (by omega) hb1 (OwnTs.nil _ _ _) (fun t ht => by cases ht) (by have:=HSZ.out; simp; omega)).mono ?_
 rintro e w1 ⟨rfl,v,L,us,hK,hl⟩
 obtain ⟨A,c,rfl⟩:=own_slice hK.own.row
 have hz0:=hK.chg.blk HB0.out (fun e => by rcases e with e | e | e <;> first | omega | cases e)
 have c1:=(hK.blk.cell 0).trans (show _=some (Value.slice A L.length c) from rfl)
 have c0:=(hz0.cell 0).trans (show _=some (Value.slice none 0 0) from rfl)
 have f0:=hz0.frozen 0
 have hT:=hK.own.terms
 have hs1:=hK.chg.size
 simp only [World.size_alloc] at hs1
 have hn1:∀ g,(Value.slice A L.length c).ownBlock=some g → g ≠ w.heap.size:=own_not hK.own.row hz0 (by decide)
 have HKK:=Lib.hid hK
 have HL:=Lib.hid hl
 clear hb0 hb1 hbw hK hz0 hl hT
 go_wp2_with fail
 refine bodyPost_ret (v:=.agg #[.slice A L.length c]) ?_ rfl ?_
 ·have e1:(w1.setCell ⟨w.heap.size,0,none⟩ (.slice A L.length c)).cell? ⟨w.heap.size,0,none⟩=some (.slice A L.length c):=World.cell?_setCell_same w1 ⟨w.heap.size,0,none⟩ _ c0
  simp [results,Tryz.results34,go_sem,e1]
 ·have hK:=HKK.out
  have hchg:Chg w1 (w1.setCell ⟨w.heap.size,0,none⟩ (.slice A L.length c)) (fun i => i=w.heap.size):=chg_set w1 w.heap.size 0 _
  have hz0:=hK.chg.blk HB0.out (fun e => by rcases e with e | e | e <;> first | omega | cases e)
  have ho:=hK.own.chg hchg (fun g hg e => hn1 g hg e) (fun k hk g hg e => own_not (hK.own.args k hk) hz0 (by decide) g hg e)
  refine ⟨_,_,_,L,rfl,ho.terms,by simpa using HL.out,hK.kit,hK.dc.keep (fun q hq => Below.heap_setCell _ _ _ q (by show q ≠ w.heap.size; omega)),?_⟩
  refine ⟨?_,hK.len⟩
  refine ⟨hchg.os.trans (hK.chg.os.trans HBW.out.os),hchg.tape.trans (hK.chg.tape.trans HBW.out.tape),hchg.output.trans (hK.chg.output.trans HBW.out.output),by have:=hchg.size; omega,fun i hi hne => ?_⟩
  have e1:i ≠ db:=fun e => hne (by rw [e])
  exact (hchg.block i (by omega) (by omega)).trans ((hK.chg.block i (by simp; omega) (fun e => by rcases e with e | e | e <;> first | exact e1 e | omega | cases e)).trans (HBW.out.block i hi))
def Rd (w : World) (rb : Nat) (s : ByteArray) (r : List UInt8) : Prop := ∃ p : Nat,Blk w rb 177 #[.string s,.int .i64 (p : Int)] ∧ p ≤ s.size ∧ (blOf s).drop p = r
theorem Rd.lt {w : World} {rb : Nat} {s : ByteArray} {r : List UInt8} (h : Rd w rb s r) : rb < w.heap.size := by obtain ⟨p,hb,_⟩ := h; exact hb.lt
theorem Rd.keep {w w' : World} {rb : Nat} {s : ByteArray} {r : List UInt8} (h : Rd w rb s r) (hk : w'.heap[rb]? = w.heap[rb]?) : Rd w' rb s r := by
 obtain ⟨p,hb,h1,h2⟩:=h; exact ⟨p,hk.trans hb,h1,h2⟩
def posR (s : ByteArray) (r : List UInt8) : Nat := s.size - r.length
theorem Rd.pos {w : World} {rb : Nat} {s : ByteArray} {r : List UInt8} (h : Rd w rb s r) : Blk w rb 177 #[.string s,.int .i64 (posR s r : Int)] ∧ posR s r ≤ s.size ∧ (blOf s).drop (posR s r) = r ∧ r.length ≤ s.size := by
 obtain ⟨p,hb,h1,h2⟩:=h
 have hl:r.length=s.size - p:=by rw [← h2,List.length_drop,blOf_len]
 have e:posR s r=p:=by unfold posR; omega
 rw [e]; exact ⟨hb,h1,h2,by omega⟩
theorem drop_cons {s : ByteArray} {p : Nat} (h : p < s.size) : (blOf s).drop p = s[p] :: (blOf s).drop (p + 1) := by
 rw [List.drop_eq_getElem_cons (by rw [blOf_len]; exact h)]; rfl
def wrongCh (p : Int) : List PanicEntry := [{ v := .iface 178 (.int .i64 p),recovered := false }]
set_option maxHeartbeats 1000000 in
theorem f_fail (rb p : Nat) (s : ByteArray) (w : World) (hb : Blk w rb 177 #[.string s,.int .i64 (p : Int)]) :
  Calls Tryz.prog 130 #[.pointer (some ⟨rb,0,none⟩)] w fun e w' => e=.panicked (wrongCh p) ∧ w=w':=by
 have c1:=(hb.cell 1).trans (show _=some (Value.int .i64 (p:Int)) from rfl)
 go_enter Tryz.func130,Tryz.ntmps130
 go_wp2_with fail
 exact ⟨rfl,rfl,rfl⟩
def farR (w : World) (rb n : Nat) : Nat := match w.cell? ⟨rb,1,none⟩ with
 | some (.int _ p) => n - p.toNat
 | _ => 0
theorem farR_of {w : World} {rb n p : Nat} (h : w.cell? ⟨rb,1,none⟩ = some (.int .i64 (p : Int))) : farR w rb n = n - p := by unfold farR; rw [h]; simp
def ReadPost (w : World) (rb : Nat) (s : ByteArray) (r : List UInt8) (e : Ending) (w' : World) : Prop := e = .returned (.tuple #[]) ∧ Rd w' rb s r ∧ w.grownBy w' (some rb)
theorem grown_drewN (w : World) (n : Nat) (row : Option Nat) : w.grownBy (w.drewN n) row := ⟨rfl,rfl,rfl,Nat.le_refl _,fun _ _ _ => rfl⟩
theorem space_cons_sp {c : UInt8} {q : List UInt8} (h : spB c = true) : spaceB (c :: q) = spaceB q := by unfold spaceB; rw [List.dropWhile_cons,if_pos h]
theorem u8_ne {c : UInt8} {n : Nat} (hn : n < 256) (h : c ≠ UInt8.ofNat n) : ((c.toNat : Int) == (n : Int)) = false := by
 rw [beq_eq_false_iff_ne]
 intro e
 apply h
 apply UInt8.toNat_inj.1
 rw [UInt8.toNat_ofNat_of_lt' (by simpa using hn)]; omega
theorem rd_step {wr : World} {rb p : Nat} {s : ByteArray} (hb : Blk wr rb 177 #[.string s,.int .i64 (p : Int)]) (q : Nat) : Blk ((wr.drewN q).setCell ⟨rb,1,none⟩ (.int .i64 ((p : Int) + 1))) rb 177 #[.string s,.int .i64 ((p + 1 : Nat) : Int)] := (hb.drewN q).set_ 1 (.int .i64 ((p : Int) + 1))
theorem grown_set (w : World) (p : Addr) (v : Value) : w.grownBy (w.setCell p v) (some p.block) :=
 ⟨rfl,rfl,rfl,by simp [World.setCell],fun i _ hn => Below.heap_setCell w p v i (fun e => hn (by rw [e]))⟩
set_option maxRecDepth 100000 in
set_option maxHeartbeats 2000000 in
theorem f_space (rb : Nat) (s : ByteArray) (r : List UInt8) (w : World) (hr : Rd w rb s r) (hs : s.size ≤ 100000) :
  Calls Tryz.prog 128 #[.pointer (some ⟨rb,0,none⟩)] w (ReadPost w rb s (spaceB r)):=by
 have HR:=Lib.hid hr
 clear hr
 go_enter Tryz.func128,Tryz.ntmps128
 go_wp2_with fail
 go_loopw [5] (fun v5 wr => ∃ r',Rd wr rb s r' ∧ spaceB r'=spaceB r ∧ w.grownBy wr (some rb)) (fun _ wr => farR wr rb s.size)
 case atStart => exact ⟨r,HR.out,rfl,World.grownBy.refl _ _⟩
 case round =>
  obtain ⟨r',hrd,hsp,hg⟩:=hrel
  obtain ⟨p,hb,hp,hdr⟩:=hrd
  have c0:=(hb.cell 0).trans (show _=some (Value.string s) from rfl)
  have c1:=(hb.cell 1).trans (show _=some (Value.int .i64 (p:Int)) from rfl)
  have f1:=hb.frozen 1
  have HB:=Lib.hid hb
  have HSP:=Lib.hid hsp
  have HG:=Lib.hid hg
  clear hb hsp hg
  have zp:(0:Int) ≤ (p:Int):=by omega
  by_cases hlt:p < s.size
  ·have hd:=drop_cons hlt
   rw [hdr] at hd
   have q1:(p:Int) < (s.size:Int):=by omega
   have q2:decide ((p:Int) < (s.size:Int))=true:=by simpa using hlt
   have q3:decide (p < s.size)=true:=by simpa using hlt
   have HD:=Lib.hid hd
   have HDR:=Lib.hid hdr
   clear hd hdr
   by_cases h32:s[p]=32
   ·have t1:((s[p].toNat:Int) == 32)=true:=by rw [h32]; rfl
    have H32:=Lib.hid h32
    clear h32
    have HSPC:spB s[p]=true:=by rw [H32.out]; rfl
    have HSPC:=Lib.hid HSPC
    go_wp2_with fail
    go_quiet (fail)
    go_wp2_with fail
    go_roundw
    case measure =>
     rw [farR_of c1,farR_of (p:=p+1) (((rd_step HB.out _).cell 1).trans rfl)]; omega
    case rel =>
     refine ⟨_,⟨p+1,rd_step HB.out _,by omega,rfl⟩,?_,HG.out.trans ((grown_drewN _ _ _).trans (grown_set _ _ _))⟩
     rw [← HSP.out,HD.out]; exact (space_cons_sp HSPC.out).symm
   ·have t1:((s[p].toNat:Int) == 32)=false:=u8_ne (n:=32) (by decide) h32
    by_cases h10:s[p]=10
    ·have t2:((s[p].toNat:Int) == 10)=true:=by rw [h10]; rfl
     have HSPC:spB s[p]=true:=by rw [h10]; rfl
     have HSPC:=Lib.hid HSPC
     clear h32 h10
     go_wp2_with fail
     go_quiet (fail)
     go_wp2_with fail
     go_roundw
     case measure =>
      rw [farR_of c1,farR_of (p:=p+1) (((rd_step HB.out _).cell 1).trans rfl)]; omega
     case rel =>
      refine ⟨_,⟨p+1,rd_step HB.out _,by omega,rfl⟩,?_,HG.out.trans ((grown_drewN _ _ _).trans (grown_set _ _ _))⟩
      rw [← HSP.out,HD.out]; exact (space_cons_sp HSPC.out).symm
    ·have t2:((s[p].toNat:Int) == 10)=false:=u8_ne (n:=10) (by decide) h10
     have hsp0:spB s[p]=false:=by simp [spB,h32,h10]
     have HS0:=Lib.hid hsp0
     clear h32 h10 hsp0
     go_wp2_with fail
     go_quiet (fail)
     go_wp2_with fail
     go_end0
     refine ⟨rfl,?_,HG.out.trans (grown_drewN _ _ _)⟩
     have e:spaceB r=r':=by rw [← HSP.out,HD.out]; exact space_stop (.inr HS0.out)
     rw [e]
     exact ⟨p,HB.out,hp,HDR.out⟩
  ·have hpe:p=s.size:=by omega
   have q1:¬ (p:Int) < (s.size:Int):=by omega
   have q2:decide ((p:Int) < (s.size:Int))=false:=by simpa using hlt
   have q3:decide (p < s.size)=false:=by simpa using hlt
   have hr0:r' = []:=by rw [← hdr]; exact List.drop_eq_nil_of_le (by rw [blOf_len]; omega)
   have HR0:=Lib.hid hr0
   have HDR:=Lib.hid hdr
   clear hr0 hdr hpe
   go_wp2_with fail
   go_quiet (fail)
   go_wp2_with fail
   go_end0
   refine ⟨rfl,?_,HG.out.trans (grown_drewN _ _ _)⟩
   have e:spaceB r=r':=by rw [← HSP.out,HR0.out]; rfl
   rw [e]
   exact ⟨p,HB.out,hp,HDR.out⟩
theorem extract_drop (t : ByteArray) (i j : Nat) : t.extract i j = bsOf (((blOf t).drop i).take (j - i)) := by
 apply blOf_inj
 rw [blOf_bsOf]
 show (t.extract i j).data.toList=_
 rw [ByteArray.data_extract,Array.toList_extract]
theorem bsOf_data' (l : List UInt8) : (bsOf l).size = l.length := by show l.toArray.size = _; simp
theorem index_quote (l : List UInt8) : Lib.index l [34] = if 34 ∈ l then ((l.takeWhile (· ≠ 34)).length : Int) else -1 := by
 induction l with
 | nil => rfl
 | cons b l ih =>
  unfold Lib.index
  by_cases h:b=34
  ·subst h; simp [List.isPrefixOf]
  ·have h1:List.isPrefixOf [34] (b :: l)=false:=by
    simp [List.isPrefixOf]; exact fun e => h e.symm
   rw [h1]
   simp only [Bool.false_eq_true,if_false]
   have h2:(34 ∈ b :: l) ↔ 34 ∈ l:=by
    rw [List.mem_cons]; exact ⟨fun e => e.resolve_left (fun e => h e.symm),.inr⟩
   by_cases hm:34 ∈ l
   ·have e1:Lib.index l [34]=((l.takeWhile (· ≠ 34)).length:Int):=by rw [ih,if_pos hm]
    have e2:¬ (((l.takeWhile (· ≠ 34)).length:Int) == -1)=true:=by
     rw [beq_iff_eq]; omega
    rw [e1,if_neg e2,if_pos (h2.2 hm),List.takeWhile_cons,if_pos (decide_eq_true h)]
    simp
   ·have e1:Lib.index l [34] = -1:=by rw [ih,if_neg hm]
    rw [e1,if_neg (fun e => hm (h2.1 e))]; rfl
theorem cut_quote_yes {l : List UInt8} (h : 34 ∈ l) : (Lib.cut l [34]).1 = l.takeWhile (· ≠ 34) ∧ (Lib.cut l [34]).2.2 = true := by
 unfold Lib.cut
 rw [index_quote,if_pos h,if_pos (by omega)]
 refine ⟨?_,rfl⟩
 simp only [Int.toNat_natCast]
 have:=List.takeWhile_prefix (p:=fun x => decide (x ≠ 34)) (l:=l)
 exact (List.prefix_iff_eq_take.1 this).symm
theorem cut_quote_no {l : List UInt8} (h : ¬ 34 ∈ l) : (Lib.cut l [34]).2.2 = false := by
 unfold Lib.cut
 rw [index_quote,if_neg h,if_neg (by omega)]
theorem tw_snoc (p : UInt8 → Bool) (l : List UInt8) (k : Nat) (hk : k ≤ l.length) (h : ∀ j,j < k → p (l.getD j 0) = true) : (k = l.length ∨ p (l.getD k 0) = false) → l.takeWhile p = l.take k := by
 induction l generalizing k with
 | nil => intro _; simp
 | cons c l ih =>
  intro he
  cases k with
  | zero =>
   rcases he with h0 | h0
   ·simp at h0
   ·simp at h0; simp [h0]
  | succ k =>
   have h0:=h 0 (by omega)
   simp at h0
   rw [List.takeWhile_cons,if_pos h0,List.take_succ_cons]
   congr 1
   refine ih k (by simpa using hk) (fun j hj => by simpa using h (j+1) (by omega)) ?_
   rcases he with e | e
   ·left; simpa using e
   ·right; simpa using e
def sgI (c : UInt8) : Int := Lib.indexByte [40,41,44] c
theorem sgI_pos {c : UInt8} (h : signB c = true) : 0 ≤ sgI c := by
 have e:=indexByte_has [40,41,44] c
 have h2:[40,41,44].contains c=true:=by unfold signB at h; simpa [or_assoc] using h
 rw [h2] at e
 exact of_decide_eq_true e
theorem sgI_neg {c : UInt8} (h : signB c = false) : sgI c < 0 := by
 have e:=indexByte_has [40,41,44] c
 have h2:[40,41,44].contains c=false:=by unfold signB at h; simpa [and_assoc] using h
 rw [h2] at e
 have:=of_decide_eq_false e
 unfold sgI; omega
theorem i_signs (c : UInt8) (w : World) :
  Calls Tryz.prog 166 #[.string ⟨#[40,41,44]⟩,.int .u8 (c.toNat:Int)] w fun e w' => e=.returned (.int .i64 (sgI c)) ∧ w=w':=by
 refine (Tryz.strings_IndexByte ⟨#[40,41,44]⟩ (c.toNat:Int) w).mono ?_
 rintro e w' ⟨rfl,rfl⟩
 refine ⟨?_,rfl⟩
 have e:((c.toNat:Int)).toNat.toUInt8=c:=by simp
 rw [e]; rfl
theorem i_Cut (t : ByteArray) (w : World) (ht : t.size ≤ 1000000) (m : Int) (hm : w.cell? ⟨5,0,none⟩ = some (.int .i64 m)) :
  Calls Tryz.prog 209 #[.string t,.string ⟨#[34]⟩] w fun e w' => ∃ a,e=.returned (.tuple #[.string (bsOf (Lib.cut (blOf t) [34]).1),.string a,.bool (Lib.cut (blOf t) [34]).2.2]) ∧ ∃ n,w'=w.drewN n:=by
 refine (Tryz.strings_Cut t ⟨#[34]⟩ m w (by omega) hm).mono ?_
 rintro e w' ⟨rfl,n,rfl⟩
 exact ⟨_,rfl,n,rfl⟩
def WordPost (w : World) (l : List UInt8) (e : Ending) (w' : World) : Prop := e = .returned (.string (bsOf l)) ∧ ∃ n,w' = w.drewN n
set_option maxRecDepth 100000 in
set_option maxHeartbeats 2000000 in
theorem f_word (rb : Nat) (s : ByteArray) (r : List UInt8) (w : World) (hr : Rd w rb s r) (hs : s.size ≤ 100000) (hl : ParOk w) :
    Calls Tryz.prog 186 #[.pointer (some ⟨rb,0,none⟩)] w (WordPost w (wordB r)):=by
  obtain ⟨p,hb,hp,hdr⟩:=hr
  have c0:=(hb.cell 0).trans (show _=some (Value.string s) from rfl)
  have c1:=(hb.cell 1).trans (show _=some (Value.int .i64 (p:Int)) from rfl)
  have zp:(0:Int) ≤ (p:Int):=by omega
  have zp1:(p:Int) ≤ (s.size:Int):=by omega
  have HDR:=Lib.hid hdr
  clear hb hdr
  obtain ⟨rest,hre⟩:∃ t,s.extract p s.size=t:=⟨_,rfl⟩
  have hrl:blOf rest=r:=by
    have h1:=HDR.out
    rw [← hre,extract_drop,blOf_bsOf,← h1,List.take_of_length_le (by rw [List.length_drop,blOf_len]; omega)]
  have hrs:rest.size ≤ 100000:=by rw [← blOf_len,hrl,← HDR.out,List.length_drop,blOf_len]; omega
  obtain ⟨m,hm⟩:=hl.most
  have HRE:=Lib.hid hre
  have HRL:=Lib.hid hrl
  clear hre hrl hl HDR
  by_cases h0:rest.size=0
  · obtain rfl:=(show rest=⟨#[]⟩ from blOf_inj (List.eq_nil_of_length_eq_zero (by rw [blOf_len]; exact h0)))
    have hr0:r = []:=HRL.out.symm
    subst hr0
    clear h0 hrs
    go_enter Tryz.func186,Tryz.ntmps186
    go_wp2_with fail
    go_quiet (fail)
    rw [HRE.out]
    go_wp2_with fail
    go_ret
    exact ⟨rfl,_,rfl⟩
  · have z1:(rest.toList == [])=false:=by
      rw [ByteArray.toList_eq]
      cases hl:rest.data.toList with
      | nil => exact absurd (by rw [← blOf_len]; show rest.data.toList.length=0; rw [hl]; rfl) h0
      | cons a r => rfl
    have z2:(!rest.toList.isEmpty)=true:=by
      rw [ByteArray.toList_eq]
      cases hl:rest.data.toList with
      | nil => exact absurd (by rw [← blOf_len]; show rest.data.toList.length=0; rw [hl]; rfl) h0
      | cons a r => rfl
    have z3:¬ rest.toList = []:=by simpa using z1
    have hpos:0 < rest.size:=by omega
    have hpos1:1 ≤ rest.size:=by omega
    have hcc:r=rest[0] :: (blOf rest).drop (0+1):=HRL.out.symm.trans ((List.drop_zero).symm.trans (drop_cons hpos))
    obtain ⟨cs,hcs⟩:∃ cs,(blOf rest).drop (0+1)=cs:=⟨_,rfl⟩
    rw [hcs] at hcc
    have HCC:=Lib.hid hcc
    have HCS:=Lib.hid hcs
    have hch:=UInt8.toNat_lt rest[0]
    clear hcc hcs
    by_cases hsg:signB rest[0]=true
    · have q2:=sgI_pos hsg
      have q3:decide (0 ≤ sgI rest[0])=true:=by simpa using q2
      have hw:wordB r = [rest[0]]:=by rw [HCC.out]; exact word_sign hsg
      have hex:rest.extract 0 1=bsOf [rest[0]]:=by
        rw [extract_drop,List.drop_zero,HRL.out,HCC.out]; rfl
      have HW:=Lib.hid hw
      have HEX:=Lib.hid hex
      clear hsg hw h0 hex
      go_enter Tryz.func186,Tryz.ntmps186
      go_wp2_with fail
      go_quiet (fail)
      rw [HRE.out]
      go_wp2_with (go_at_call 166; refine (i_signs _ _).mono ?_; rintro e w' ⟨rfl,rfl⟩)
      go_ret
      exact ⟨by rw [HW.out,← HEX.out]; rfl,_,rfl⟩
    · have hsg':signB rest[0]=false:=by simpa using hsg
      have q2:=sgI_neg hsg'
      have q2':¬ 0 ≤ sgI rest[0]:=by omega
      have q3:decide (0 ≤ sgI rest[0])=false:=by simpa using q2'
      by_cases hq:rest[0]=34
      · have t1:((rest[0].toNat:Int) == 34)=true:=by rw [hq]; rfl
        have he1:blOf (rest.extract 1 rest.size)=cs:=by
          rw [extract_drop,blOf_bsOf,HRL.out,← HCS.out,HRL.out,List.take_of_length_le (by rw [List.length_drop]; have:=blOf_len rest; rw [HRL.out] at this; omega)]
        have hsz:(rest.extract 1 rest.size).size ≤ 100000:=by rw [← blOf_len,he1,← HCS.out,List.length_drop,blOf_len]; omega
        have hwq:wordB r=(if 34 ∈ cs then 34 :: (cs.takeWhile (· ≠ 34) ++ [34]) else []):=by
          rw [HCC.out,wordB_cons,hsg',hq]; simp
        have hm2:∀ q,(w.drewN q).cell? ⟨5,0,none⟩=some (.int .i64 m):=fun q => hm
        have HM:=Lib.hid hm2
        have HE1:=Lib.hid he1
        have HWQ:=Lib.hid hwq
        have HQ:=Lib.hid hq
        clear hsg hsg' hq he1 hwq hm2 h0 hm
        by_cases hin:34 ∈ cs
        · obtain ⟨k1,k2⟩:=cut_quote_yes hin
          have hlen:(cs.takeWhile (· ≠ 34)).length+2 ≤ rest.size:=by
            have:=word_len (34 :: cs)
            rw [wordB_cons,if_neg (by decide),if_pos rfl,if_pos hin] at this
            have h2:=blOf_len rest
            rw [HRL.out,HCC.out] at h2
            simp only [List.length_cons,List.length_append,List.length_nil] at this h2
            omega
          have hex:rest.extract 0 ((cs.takeWhile (· ≠ 34)).length+2)=bsOf (34 :: (cs.takeWhile (· ≠ 34) ++ [34])):=by
            rw [extract_drop,List.drop_zero,HRL.out,HCC.out,HQ.out]
            congr 1
            rw [Nat.sub_zero,List.take_succ_cons]
            congr 1
            have h1:∀ l:List UInt8,34 ∈ l → l.take ((l.takeWhile (· ≠ 34)).length+1)=l.takeWhile (· ≠ 34) ++ [34]:=by
              intro l
              induction l with
              | nil => intro h; cases h
              | cons d l ih =>
                intro hm
                by_cases hd:d=34
                · subst hd; simp
                · have hm':34 ∈ l:=(List.mem_cons.1 hm).resolve_left (fun e => hd e.symm)
                  rw [List.takeWhile_cons,if_pos (decide_eq_true hd),List.length_cons,List.take_succ_cons,ih hm']; rfl
            exact h1 cs hin
          have hw:wordB r=34 :: (cs.takeWhile (· ≠ 34) ++ [34]):=by rw [HWQ.out,if_pos hin]
          obtain ⟨tw,htw⟩:∃ tw,cs.takeWhile (· ≠ 34)=tw:=⟨_,rfl⟩
          rw [htw] at k1 hlen hex hw
          have zt:(bsOf tw).size=tw.length:=bsOf_data' tw
          have HK1:=Lib.hid k1
          have HK2:=Lib.hid k2
          have HEX:=Lib.hid hex
          have HW:=Lib.hid hw
          have HZT:=Lib.hid zt
          have q5:(bsOf tw).size+2 ≤ rest.size:=by omega
          clear k1 k2 hex hw htw hin zt hlen
          go_enter Tryz.func186,Tryz.ntmps186
          go_wp2_with fail
          go_quiet (fail)
          rw [HRE.out]
          go_wp2_with (first
            | (go_at_call 166; refine (i_signs _ _).mono ?_; rintro e w' ⟨rfl,rfl⟩)
            | (go_at_call 209; refine (i_Cut _ _ (by omega) m (HM.out _)).mono ?_; rintro e w' ⟨av,rfl,n2,rfl⟩; rw [HE1.out,HK1.out,HK2.out]))
          go_ret
          refine ⟨?_,⟨_,rfl⟩⟩
          rw [HW.out,← HEX.out,← HZT.out]
          rfl
        · have k2:=cut_quote_no hin
          have hw:wordB r = []:=by rw [HWQ.out,if_neg hin]
          have HK2:=Lib.hid k2
          have HW:=Lib.hid hw
          clear k2 hw hin
          go_enter Tryz.func186,Tryz.ntmps186
          go_wp2_with fail
          go_quiet (fail)
          rw [HRE.out]
          go_wp2_with (first
            | (go_at_call 166; refine (i_signs _ _).mono ?_; rintro e w' ⟨rfl,rfl⟩)
            | (go_at_call 209; refine (i_Cut _ _ (by omega) m (HM.out _)).mono ?_; rintro e w' ⟨av,rfl,n2,rfl⟩; rw [HE1.out,HK2.out]))
          go_ret
          refine ⟨?_,⟨_,rfl⟩⟩
          rw [HW.out]; rfl
      · have t1:((rest[0].toNat:Int) == 34)=false:=u8_ne (n:=34) (by decide) hq
        have hw:wordB r=r.takeWhile inWB:=by
          conv => lhs; rw [HCC.out,wordB_cons,hsg',if_neg (by decide),if_neg hq,← HCC.out]
        have hrlen:r.length=rest.size:=by rw [← HRL.out,blOf_len]
        have HW:=Lib.hid hw
        have HLN:=Lib.hid hrlen
        clear hsg hsg' hq hw h0 hm hrlen
        go_enter Tryz.func186,Tryz.ntmps186
        go_wp2_with fail
        go_quiet (fail)
        rw [HRE.out]
        go_wp2_with (go_at_call 166; refine (i_signs _ _).mono ?_; rintro e w' ⟨rfl,rfl⟩)
        go_loop [7] (fun v7 => ∃ k:Nat,k ≤ rest.size ∧ v7=.int .i64 (k:Int) ∧ ∀ j,j < k → inWB (r.getD j 0)=true) (fun v7 => rest.size - (intOf v7).toNat)
        case atStart => exact ⟨0,by omega,rfl,fun j hj => absurd hj (Nat.not_lt_zero _)⟩
        case round =>
          obtain ⟨k,hk,rfl,hne⟩:=hrel
          have HNE:=Lib.hid hne
          clear hne
          have z5:(0:Int) ≤ (k:Int):=by omega
          by_cases hlt:k < rest.size
          · have gk:r.getD k 0=rest[k]:=by rw [← HRL.out]; exact blOf_get rest k hlt
            have GK:=Lib.hid gk
            have hkb:=UInt8.toNat_lt rest[k]
            have q6:decide ((k:Int) < (rest.size:Int))=true:=by simpa using hlt
            have q7:decide (k < rest.size)=true:=by simpa using hlt
            have q8:(k:Int) < (rest.size:Int):=by omega
            clear gk
            cases hi:inWN (rest[k]).toNat with
            | true =>
              have HI:=Lib.hid hi
              clear hi
              go_wp2_with (go_at_call 136; refine (f_inWord _ _ hkb).mono ?_; rintro e w' ⟨rfl,rfl⟩; rw [HI.out])
              go_round
              case rel => exact ⟨k+1,by omega,by go_num,fun j hj => by
                rcases Nat.lt_or_ge j k with h | h
                · exact HNE.out j h
                · rw [show j=k by omega,GK.out,inWB_n]; exact HI.out⟩
              case measure => simp [intOf]; omega
            | false =>
              have HI:=Lib.hid hi
              have hex:rest.extract 0 k=bsOf (wordB r):=by
                rw [extract_drop,List.drop_zero,HRL.out,HW.out,tw_snoc inWB r k (by rw [HLN.out]; omega) HNE.out (.inr (by rw [GK.out,inWB_n]; exact hi))]; rfl
              have HEX:=Lib.hid hex
              clear hi hex
              go_wp2_with (go_at_call 136; refine (f_inWord _ _ hkb).mono ?_; rintro e w' ⟨rfl,rfl⟩; rw [HI.out])
              go_ret
              exact ⟨by rw [← HEX.out]; rfl,_,rfl⟩
          · have hkn:k=rest.size:=by omega
            have hex:rest.extract 0 k=bsOf (wordB r):=by
              rw [extract_drop,List.drop_zero,HRL.out,HW.out,tw_snoc inWB r k (by rw [HLN.out]; omega) HNE.out (.inl (by rw [HLN.out]; exact hkn))]; rfl
            have HEX:=Lib.hid hex
            have q6:decide ((k:Int) < (rest.size:Int))=false:=by simpa using hlt
            have q7:decide (k < rest.size)=false:=by simpa using hlt
            have q8:(k:Int) ≤ (rest.size:Int):=by omega
            clear hex hkn
            go_wp2_with fail
            go_ret
            exact ⟨by rw [← HEX.out]; rfl,_,rfl⟩
end Go.Proofs.YtgdngfdeeadlnaaGreatDoor
