/- The reference's digits, Text, number and Parse: what they return. -/
import Derived.Test.YtgdngfdeeadlnaaGreatDoorC02
import Derived.Test.YtgdngfdeeadlnaaGreatDoorC03
set_option linter.unusedVariables false
set_option linter.unusedSimpArgs false
namespace Go.Proofs.YtgdngfdeeadlnaaGreatDoor.Cal
open Go.RowKit Cal
set_option maxHeartbeats 1000000 in
theorem ref_number (l : List UInt8) (w : World) (hl : l.length ≤ 4) :
  Calls Tryz.prog 83 #[.string ⟨l.toArray⟩] w fun e w' => e=.returned (.int .i64 (numF 0 l)) ∧ w=w':=by
 have hls:(⟨l.toArray⟩:ByteArray).size=l.length:=ba_sz l
 go_enter Tryz.func83,Tryz.ntmps83
 go_wp2_with fail
 go_loop [3,7] (fun x i => ∃ (k:Nat) (a:Int),k ≤ l.length ∧ i=.int .i64 k ∧ x=.int .i64 a ∧ 0 ≤ a ∧ a < 10 ^ k ∧ numF 0 l=numF a (l.drop k)) (fun _ i => (l.length - intOf i).toNat)
 case atStart => exact ⟨0,0,by omega,rfl,rfl,by omega,by decide,rfl⟩
 case round =>
  obtain ⟨k,a,hk,rfl,rfl,ha,ha2,he⟩:=hrel
  have ha3:a < 10000:=Int.lt_of_lt_of_le ha2 (by
   have:k=0 ∨ k=1 ∨ k=2 ∨ k=3 ∨ k=4:=by omega
   rcases this with rfl | rfl | rfl | rfl | rfl <;> decide)
  have HE:=Lib.hid he
  have H2:=Lib.hid ha2
  clear he ha2
  by_cases hlt:k < l.length
  ·have hd:l.drop k=l[k] :: l.drop (k+1):=List.drop_eq_getElem_cons hlt
   have HD:=Lib.hid hd
   clear hd
   have hc:=(l[k]).toNat_lt
   have hbk:((⟨l.toArray⟩:ByteArray)[k]'(by rw [hls]; exact hlt))=l[k]:=by
    show l.toArray[k]'_=_
    simp
   obtain ⟨c,hcc⟩:∃ c,l[k]=c:=⟨_,rfl⟩
   rw [hcc] at hbk hc HD
   clear hcc
   by_cases hg:48 ≤ c.toNat
   ·by_cases hg2:c.toNat ≤ 57
    ·go_wp2_with fail
     go_round
     case rel => exact ⟨k+1,10*a+((c.toNat:Int) - 48),by omega,by go_num,rfl,by omega,by have:=H2.out; rw [Int.pow_succ]; omega,by rw [HE.out,HD.out,numF,if_pos ⟨hg,hg2⟩]⟩
     case measure => simp [intOf]; omega
    ·go_wp2_with fail
     go_ret
     exact ⟨ret_int (by rw [HE.out,HD.out,numF,if_neg (by omega)]),rfl⟩
   ·go_wp2_with fail
    go_ret
    exact ⟨ret_int (by rw [HE.out,HD.out,numF,if_neg (by omega)]),rfl⟩
  ·go_wp2_with fail
   go_ret
   exact ⟨ret_int (by rw [HE.out,List.drop_of_length_le (by omega)]; rfl),rfl⟩
theorem quiet_left {P : Program} {f : FuncId} {args : Array Value} {w : World} {n : Nat} {v : Value}
  (h:Calls P f args (w.drewN n) fun e w' => e=.returned v ∧ w.drewN n=w'):Calls P f args (w.drewN n) fun e w' => e=.returned v ∧ ∃ m,w'=w.drewN m :=
 h.mono fun _ _ ⟨he,hm⟩ => ⟨he,n,hm.symm⟩
set_option maxRecDepth 100000 in
set_option maxHeartbeats 1000000 in
theorem ref_Parse_t (l : List UInt8) (w : World) (hl : l.length = 10) (h4 : l[4]? = some 45) (h7 : l[7]? = some 45) :
  Calls Tryz.prog 46 #[.string ⟨l.toArray⟩] w fun e w' => e=.returned (.tuple #[.int .i64 (prN l),.int .i64 (prE l)]) ∧ Below w.heap.size w w':=by
 obtain ⟨e1,e2⟩:=ref_text hl h4 h7
 have hls:(⟨l.toArray⟩:ByteArray).size=10:=by rw [ba_sz]; exact hl
 have b4:((⟨l.toArray⟩:ByteArray)[4]'(by rw [hls]; decide))=45:=by
  rw [List.getElem?_eq_getElem (by omega)] at h4
  have:l[4]=45:=Option.some.inj h4
  show l.toArray[4]'_=_
  simpa using this
 have b7:((⟨l.toArray⟩:ByteArray)[7]'(by rw [hls]; decide))=45:=by
  rw [List.getElem?_eq_getElem (by omega)] at h7
  have:l[7]=45:=Option.some.inj h7
  show l.toArray[7]'_=_
  simpa using this
 have x1:(⟨l.toArray⟩:ByteArray).extract 0 4=⟨(l.take 4).toArray⟩:=by have:=ba_ext l 0 4; simpa [ba] using this
 have x2:(⟨l.toArray⟩:ByteArray).extract 5 7=⟨((l.drop 5).take 2).toArray⟩:=ba_ext l 5 7
 have x3:(⟨l.toArray⟩:ByteArray).extract 8 10=⟨((l.drop 8).take 2).toArray⟩:=ba_ext l 8 10
 have y1:(l.take 4).length ≤ 4:=List.length_take_le _ _
 have y2:((l.drop 5).take 2).length ≤ 2:=List.length_take_le _ _
 have y3:((l.drop 8).take 2).length ≤ 2:=List.length_take_le _ _
 rw [← e1,← e2]
 clear e1 e2 h4 h7
 go_enter Tryz.func46,Tryz.ntmps46
 go_wp2_with fail
 go_quiet ((first | (go_at_call 83; exact quiet_left (ref_number _ _ (by omega))) | (go_at_call 82; exact quiet_left (ref_Day _ _ _ _))))
 go_wp2_with fail
 go_ret2
 exact ⟨rfl,below_dn (Below.refl _ _) _⟩
set_option maxRecDepth 100000 in
set_option maxHeartbeats 1000000 in
theorem ref_Parse_f (l : List UInt8) (w : World) (h : l.length ≠ 10 ∨ l[4]? ≠ some 45 ∨ l[7]? ≠ some 45) (hl : l.length ≤ 1000) :
  Calls Tryz.prog 46 #[.string ⟨l.toArray⟩] w fun e w' => e=.returned (.tuple #[.int .i64 0,.int .i64 10]) ∧ Below w.heap.size w w':=by
 have hls:(⟨l.toArray⟩:ByteArray).size=l.length:=ba_sz l
 by_cases hc:l.length=10
 ·rw [hc] at hls
  by_cases h4:l[4]?=some 45
  ·have h7:l[7]? ≠ some 45:=by
    rcases h with h | h | h
    ·exact absurd hc h
    ·exact absurd h4 h
    ·exact h
   have b4:((⟨l.toArray⟩:ByteArray)[4]'(by rw [hls]; decide))=45:=by
    rw [List.getElem?_eq_getElem (by omega)] at h4
    have:l[4]=45:=Option.some.inj h4
    show l.toArray[4]'_=_
    simpa using this
   obtain ⟨c,b7⟩:∃ c,((⟨l.toArray⟩:ByteArray)[7]'(by rw [hls]; decide))=c:=⟨_,rfl⟩
   have hne:((c.toNat:Int) == 45)=false:=by
    rw [beq_eq_false_iff_ne]
    intro e
    apply h7
    rw [List.getElem?_eq_getElem (by omega)]
    have:l[7]=c:=by rw [← b7]; show _=l.toArray[7]'_; simp
    rw [this]
    congr 1
    exact UInt8.toNat_inj.1 (by show c.toNat=45; omega)
   have hne2:((c.toNat:Int) != 45)=true:=by rw [bne,hne]; rfl
   clear h h4 h7
   go_enter Tryz.func46,Tryz.ntmps46
   go_wp2_with fail
   go_ret2
   exact ⟨rfl,Below.refl _ _⟩
  ·obtain ⟨c,b4⟩:∃ c,((⟨l.toArray⟩:ByteArray)[4]'(by rw [hls]; decide))=c:=⟨_,rfl⟩
   have hne:((c.toNat:Int) == 45)=false:=by
    rw [beq_eq_false_iff_ne]
    intro e
    apply h4
    rw [List.getElem?_eq_getElem (by omega)]
    have:l[4]=c:=by rw [← b4]; show _=l.toArray[4]'_; simp
    rw [this]
    congr 1
    exact UInt8.toNat_inj.1 (by show c.toNat=45; omega)
   have hne2:((c.toNat:Int) != 45)=true:=by rw [bne,hne]; rfl
   clear h h4
   go_enter Tryz.func46,Tryz.ntmps46
   go_wp2_with fail
   go_ret2
   exact ⟨rfl,Below.refl _ _⟩
 ·have hne:((l.length:Int) == 10)=false:=by rw [beq_eq_false_iff_ne]; omega
  have hne2:((l.length:Int) != 10)=true:=by rw [bne,hne]; rfl
  clear h
  go_enter Tryz.func46,Tryz.ntmps46
  go_wp2_with fail
  go_ret2
  exact ⟨rfl,Below.refl _ _⟩
theorem ref_Parse (l : List UInt8) (w : World) (hl : l.length ≤ 1000) :
  Calls Tryz.prog 46 #[.string ⟨l.toArray⟩] w fun e w' => e=.returned (.tuple #[.int .i64 (prN l),.int .i64 (prE l)]) ∧ Below w.heap.size w w':=by
 by_cases h:l.length ≠ 10 ∨ l[4]? ≠ some 45 ∨ l[7]? ≠ some 45
 ·rw [(pr_f (not_text h)).1,(pr_f (not_text h)).2]
  exact ref_Parse_f l w h hl
 ·refine ref_Parse_t l w ?_ ?_ ?_
  ·exact Classical.byContradiction fun hc => h (Or.inl hc)
  ·exact Classical.byContradiction fun hc => h (Or.inr (Or.inl hc))
  ·exact Classical.byContradiction fun hc => h (Or.inr (Or.inr hc))
end Go.Proofs.YtgdngfdeeadlnaaGreatDoor.Cal
