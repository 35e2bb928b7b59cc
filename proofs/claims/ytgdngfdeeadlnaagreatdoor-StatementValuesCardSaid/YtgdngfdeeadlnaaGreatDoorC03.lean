/- Plain facts: digits one after the other, numerals as the reference reads them, and which t -/
import Derived.Test.YtgdngfdeeadlnaaGreatDoorC02
set_option linter.unusedVariables false
set_option linter.unusedSimpArgs false
namespace Go.Proofs.YtgdngfdeeadlnaaGreatDoor.Cal
open Go
def numF (acc : Int) : List UInt8 → Int
 | [] => acc
 | c :: r => if 48 ≤ c.toNat ∧ c.toNat ≤ 57 then numF (10*acc+((c.toNat:Int) - 48)) r else -1
theorem numF_dg (acc n : Int) (k : Nat) (r : List UInt8) : numF acc (dg n k :: r) = numF (10 * acc + (n.toNat / 10 ^ k % 10 : Nat)) r := by
 have h:=dg_range n k
 rw [numF,if_pos h,dg_nat]
 congr 1; omega
theorem numF_dig4 {n : Int} (h0 : 0 ≤ n) (h : n < 10000) : numF 0 (dig4 n) = n := by
 unfold dig4
 rw [numF_dg,numF_dg,numF_dg,numF_dg,numF]
 have:=digits4 n h0 h; omega
theorem numF_dig2 {n : Int} (h0 : 0 ≤ n) (h : n < 100) : numF 0 (dig2 n) = n := by
 unfold dig2
 rw [numF_dg,numF_dg,numF]; omega
theorem back1 {c : UInt8} {n : Int} {k : Nat} (h : 48 ≤ c.toNat ∧ c.toNat ≤ 57) (e : n.toNat / 10 ^ k % 10 = c.toNat - 48) : dg n k = c := by
 rw [← UInt8.toNat_inj,dg_nat,e]; omega
theorem dig2_numF {a b : UInt8} (h : 0 ≤ numF 0 [a,b]) : dig2 (numF 0 [a,b]) = [a,b] ∧ numF 0 [a,b] < 100 := by
 unfold numF at h ⊢
 split at h
 ·rename_i ha
  rw [if_pos ha]
  unfold numF at h ⊢
  split at h
  ·rename_i hb
   rw [if_pos hb]
   simp only [numF]
   refine ⟨?_,by omega⟩
   unfold dig2
   rw [back1 ha (by omega),back1 hb (by omega)]
  ·omega
 ·omega
theorem dig4_numF {a b c d : UInt8} (h : 0 ≤ numF 0 [a,b,c,d]) : dig4 (numF 0 [a,b,c,d]) = [a,b,c,d] ∧ numF 0 [a,b,c,d] < 10000 := by
 unfold numF at h ⊢
 split at h
 ·rename_i ha
  rw [if_pos ha]
  unfold numF at h ⊢
  split at h
  ·rename_i hb
   rw [if_pos hb]
   unfold numF at h ⊢
   split at h
   ·rename_i hc
    rw [if_pos hc]
    unfold numF at h ⊢
    split at h
    ·rename_i hd
     rw [if_pos hd]
     simp only [numF]
     refine ⟨?_,by omega⟩
     unfold dig4
     rw [back1 ha (by omega),back1 hb (by omega),back1 hc (by omega),back1 hd (by omega)]
    ·omega
   ·omega
  ·omega
 ·omega
theorem ref_text {l : List UInt8} (hl : l.length = 10) (h4 : l[4]? = some 45) (h7 : l[7]? = some 45) :
  dayN (numF 0 (l.take 4)) (numF 0 ((l.drop 5).take 2)) (numF 0 ((l.drop 8).take 2))=prN l ∧ dayE (numF 0 (l.take 4)) (numF 0 ((l.drop 5).take 2)) (numF 0 ((l.drop 8).take 2))=prE l:=by
 obtain ⟨c0,c1,c2,c3,c4,c5,c6,c7,c8,c9,rfl⟩:∃ c0 c1 c2 c3 c4 c5 c6 c7 c8 c9,l = [c0,c1,c2,c3,c4,c5,c6,c7,c8,c9]:=by
  match l,hl with
  | [c0,c1,c2,c3,c4,c5,c6,c7,c8,c9],_ => exact ⟨c0,c1,c2,c3,c4,c5,c6,c7,c8,c9,rfl⟩
 simp at h4 h7
 subst h4 h7
 show dayN (numF 0 [c0,c1,c2,c3]) (numF 0 [c5,c6]) (numF 0 [c8,c9])=_ ∧ dayE (numF 0 [c0,c1,c2,c3]) (numF 0 [c5,c6]) (numF 0 [c8,c9])=_
 by_cases hv:vld (numF 0 [c0,c1,c2,c3]) (numF 0 [c5,c6]) (numF 0 [c8,c9])
 ·obtain ⟨o,e1,e2,e3⟩:=dt_of hv
  have t:textN (num (numF 0 [c0,c1,c2,c3]) (numF 0 [c5,c6]) (numF 0 [c8,c9])) = [c0,c1,c2,c3,45,c5,c6,45,c8,c9]:=by
   rw [textN,if_pos o,e1,e2,e3,textL,(dig4_numF (by have:=hv.1; omega)).1,(dig2_numF (by have:=hv.2.2.1; omega)).1,(dig2_numF (by have:=hv.2.2.2.2.1; omega)).1]
   rfl
  rw [(pr_t o t).1,(pr_t o t).2]
  exact ⟨if_pos hv,if_pos hv⟩
 ·have hn:¬ IsText [c0,c1,c2,c3,45,c5,c6,45,c8,c9]:=by
   rintro ⟨n,o,t⟩
   apply hv
   rw [textN,if_pos o] at t
   obtain ⟨v,_⟩:=dt_ok o
   obtain ⟨b1,b2,b3,b4,b5,b6⟩:=id v
   have ll:=len_bd (dtY n) (dtM n)
   have t1:dig4 (dtY n) = [c0,c1,c2,c3]:=congrArg (fun x => x.take 4) t
   have t2:dig2 (dtM n) = [c5,c6]:=congrArg (fun x => (x.drop 5).take 2) t
   have t3:dig2 (dtD n) = [c8,c9]:=congrArg (fun x => (x.drop 8).take 2) t
   rw [← t1,← t2,← t3,numF_dig4 (by omega) (by omega),numF_dig2 (by omega) (by omega),numF_dig2 (by omega) (by omega)]
   exact v
  rw [(pr_f hn).1,(pr_f hn).2]
  exact ⟨if_neg hv,if_neg hv⟩
theorem not_text {l : List UInt8} (h : l.length ≠ 10 ∨ l[4]? ≠ some 45 ∨ l[7]? ≠ some 45) : ¬ IsText l := by
 rintro ⟨n,o,t⟩
 have:=text_len o
 rw [t] at this
 rcases h with h | h | h
 ·exact h this
 ·apply h; rw [← t,textN,if_pos o]; rfl
 ·apply h; rw [← t,textN,if_pos o]; rfl
end Go.Proofs.YtgdngfdeeadlnaaGreatDoor.Cal
