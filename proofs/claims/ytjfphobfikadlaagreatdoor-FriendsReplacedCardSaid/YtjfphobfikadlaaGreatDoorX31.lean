/- Contracts: the key of a circle is recovered out of the shares that fit, or there are too few of them. Contracts: friends.Replace, where the key is recovered and dealt anew. Contracts: the kit's Word; two lists of numbers, whether they are equal. -/
import Derived.Test.YtjfphobfikadlaaGreatDoorX28
import Derived.Test.YtjfphobfikadlaaGreatDoorX30
import Derived.Test.YtjfphobfikadlaaGreatDoorX04
import Derived.Test.YtjfphobfikadlaaGreatDoorX03
set_option linter.unusedVariables false
set_option linter.unusedSimpArgs false
namespace Go.Proofs.YtjfphobfikadlaaGreatDoor
open Go.RowKit Num

set_option maxRecDepth 100000 in
set_option maxHeartbeats 1000000 in
theorem f_CheckE (ep : Int) (e0 : 0 ≤ ep) (e1 : ep ≤ 1099511627776) (p need hold : Nat) (vm : Value) (ss : List ByteArray) (lock : ByteArray) (S : Nat → Prop) (w : World) (hw : BasesOk w) (hp : Prm p) (h2 : p ≤ 1073741824) (n1 : 1 ≤ need) (n2 : need ≤ hold) (n3 : hold ≤ 12) (n4 : hold < p)
    (hv : StrsAt w S vm ss) (hS : ∀ b, S b → b < w.heap.size) (hl : ss.length = hold) (hx : ∀ k, k < ss.length → (ss.getD k ⟨#[]⟩).size = 32) (hk : lock.size = 32) :
    Calls Tryz.prog 56 #[circV p need hold ep vm lock] w fun e w' => e = .returned (.int .i64 0) ∧ Below w.heap.size w w' := by
  unfold circV
  obtain ⟨A, n, c, rfl, hn, hnc, hcc⟩ := id hv
  have hnh : n = hold := by omega
  subst hnh
  have kp : Blk (w.alloc (.cells #[.int .i64 (p : Int), .int .i64 (need : Int), .int .i64 (n : Int), .int .i64 ep, .slice A n c, .string lock] 40)) w.heap.size 40 #[.int .i64 (p : Int), .int .i64 (need : Int), .int .i64 (n : Int), .int .i64 ep, .slice A n c, .string lock] := Blk.new w _ _
  have hba : Below w.heap.size w (w.alloc (.cells #[.int .i64 (p : Int), .int .i64 (need : Int), .int .i64 (n : Int), .int .i64 ep, .slice A n c, .string lock] 40)) := (Below.refl _ _).alloc (Nat.le_refl _) _
  have hval := s_Valid p need n _ (hw.alloc (.cells #[.int .i64 (p : Int), .int .i64 (need : Int), .int .i64 (n : Int), .int .i64 ep, .slice A n c, .string lock] 40)) hp h2 n1 n2 (by omega) n4
  have hin := fun W => r_In ep 0 1099511627776 W
  rw [show (decide ((0 : Int) ≤ ep) && decide (ep ≤ 1099511627776)) = true by rw [decide_eq_true e0, decide_eq_true e1]; rfl] at hin
  have hct := fun (W : World) (hW : Below w.heap.size w W) => f_ContainsS _ ss S W (hv.keep fun b hb => hW.block b (hS b hb)) (by omega) hx
  have hbd := fun W => f_bad lock W hk
  have KP := Lib.hid kp
  have HBA := Lib.hid hba
  have HVAL := Lib.hid hval
  have HIN := Lib.hid hin
  have HCT := Lib.hid hct
  have HBD := Lib.hid hbd
  have tn : decide ((12 : Int) < (n : Int)) = false := decide_eq_false (by omega)
  clear kp hba hval hin hct hbd hv hcc hn hl hx hk hw
  go_enter Tryz.func56, Tryz.ntmps56
  go_wp2_with fail
  refine HVAL.out.mono ?_
  rintro e w1 ⟨rfl, hb1⟩
  have kq := KP.out.below hb1 KP.out.lt
  have hq := HBA.out.trans (hb1.mono HBA.out.size)
  have s2 : w1.cell? ⟨w.heap.size, 2, none⟩ = some (.int .i64 (n : Int)) := kq.cell 2
  have s3 : w1.cell? ⟨w.heap.size, 3, none⟩ = some (.int .i64 ep) := kq.cell 3
  have s4 : w1.cell? ⟨w.heap.size, 4, none⟩ = some (.slice A n c) := kq.cell 4
  have s5 : w1.cell? ⟨w.heap.size, 5, none⟩ = some (.string lock) := kq.cell 5
  have HB1 := Lib.hid hq
  clear kq hq hb1
  go_wp2_with fail
  refine (HIN.out _).mono ?_
  rintro e w' ⟨rfl, rfl⟩
  go_wp2_with fail
  refine (HCT.out _ HB1.out).mono ?_
  rintro e w' ⟨rfl, rfl⟩
  go_wp2_with fail
  refine (HBD.out _).mono ?_
  rintro e w' ⟨rfl, rfl⟩
  go_wp2_with fail
  go_ret
  exact ⟨rfl, HB1.out⟩
set_option maxRecDepth 100000 in
set_option maxHeartbeats 2000000 in
theorem f_RecoverG (ep : Int) (e0 : 0 ≤ ep) (e1 : ep ≤ 1099511627776) (fb : Nat → Bool) (m : Nat) (sec : List Int) (p need hold : Nat) (vm v : Value) (L : List Sh) (ss : List ByteArray) (key : ByteArray) (S T : Nat → Prop) (w : World) (hw : BasesOk w) (hp : Prm p) (h2 : p ≤ 1073741824) (n1 : 1 ≤ need) (n2 : need ≤ hold) (n3 : hold ≤ 12) (n4 : hold < p) (hm2 : m ≤ 2048)
    (hv : ShAt w S v L) (hS : ∀ b, S b → b < w.heap.size) (hl : L.length ≤ 16) (h0 : 0 < L.length)
    (hm : StrsAt w T vm ss) (hT : ∀ b, T b → b < w.heap.size) (hml : ss.length = hold) (hx : ∀ k, k < ss.length → (ss.getD k ⟨#[]⟩).size = 32) (hf : FitG ss L fb) (ho : GoodSh p hold m (keepL fb L L.length)) (hk : key.size = 16)
    (hup : ∀ (W : World) (u : Value) (U : Nat → Prop), BasesOk W → IntsAt W U u sec → (∀ b, U b → b < W.heap.size) → Calls Tryz.prog 73 #[.int .i64 (p : Int), u, .int .i64 16] W fun e w' => e = .returned (.tuple #[.string key, .int .i64 0]) ∧ Below W.heap.size W w')
    (hc : need ≤ (keepL fb L L.length).length → combL p need (keepL fb L L.length) m = sec) :
    Calls Tryz.prog 27 #[circV p need hold ep vm (shaOf key), v] w (RecPost need (keepL fb L L.length) key w) := by
  have hft0 := fun (W : World) vm v S T (hv : ShAt W S v L) hS (hm : StrsAt W T vm ss) hT => f_fittingG fb p need hold ep vm v L ss (shaOf key) S T W hv hS (by omega) h0 hm hT (by omega) hf ho.once
  have hFl : (keepL fb L L.length).length ≤ L.length := keepL_len fb L _
  obtain ⟨F, hF⟩ : ∃ F, keepL fb L L.length = F := ⟨_, rfl⟩
  rw [hF] at hft0 ho hc hFl ⊢
  clear hF
  unfold RecPost circV
  obtain ⟨R, hR⟩ : ∃ R : ByteArray, (if F.length < need then ⟨#[]⟩ else key) = R := ⟨_, rfl⟩
  obtain ⟨E, hE⟩ : ∃ E : Int, (if F.length < need then 5 else 0) = E := ⟨_, rfl⟩
  rw [hR, hE]
  have HR := Lib.hid hR
  have HE := Lib.hid hE
  clear hR hE
  obtain ⟨A, n, c, rfl, hn, -⟩ := id hv
  obtain ⟨Am, nm, cm, rfl, -⟩ := id hm
  have kp : Blk (w.alloc (.cells #[.int .i64 (p : Int), .int .i64 (need : Int), .int .i64 (hold : Int), .int .i64 ep, .slice Am nm cm, .string (shaOf key)] 40)) w.heap.size 40 #[.int .i64 (p : Int), .int .i64 (need : Int), .int .i64 (hold : Int), .int .i64 ep, .slice Am nm cm, .string (shaOf key)] := Blk.new w _ _
  have hba := (Below.refl w.heap.size w).alloc (Nat.le_refl _) (.cells #[.int .i64 (p : Int), .int .i64 (need : Int), .int .i64 (hold : Int), .int .i64 ep, .slice Am nm cm, .string (shaOf key)] 40)
  unfold circV at hft0
  have hck := fun (W : World) (hW : Below w.heap.size w W) => f_CheckE ep e0 e1 p need hold (.slice Am nm cm) ss (shaOf key) T W (hw.below hW) hp h2 n1 n2 n3 n4 (hm.keep fun b hb => hW.block b (hT b hb)) (fun b hb => Nat.lt_of_lt_of_le (hT b hb) hW.size) hml hx (shaOf_size key)
  have hft := fun (W : World) (hW : Below w.heap.size w W) => hft0 W (.slice Am nm cm) (.slice A n c) S T (hv.keep fun b hb => hW.block b (hS b hb)) (fun b hb => Nat.lt_of_lt_of_le (hS b hb) hW.size)
    (hm.keep fun b hb => hW.block b (hT b hb)) (fun b hb => Nat.lt_of_lt_of_le (hT b hb) hW.size)
  have hcb := fun (W : World) (hW : Below w.heap.size w W) (u : Value) (U : Nat → Prop) (hu : ShAt W U u F) (hU : ∀ b, U b → b < W.heap.size) (hnl : need ≤ F.length) => s_Combine p need hold m u F U W (hw.below hW) hp h2 n1 n2 (by omega) n4 hu hU hnl (by omega) hm2 ho
  have hup := fun (W : World) (hW : Below w.heap.size w W) (u : Value) (U : Nat → Prop) (hu : IntsAt W U u sec) (hU : ∀ b, U b → b < W.heap.size) => hup W u U (hw.below hW) hu hU
  have hlk := fun (W : World) => f_Lock key W (by omega)
  unfold circV at hck
  unfold planV at hcb
  have KP := Lib.hid kp
  have HBA := Lib.hid hba
  have HCK := Lib.hid hck
  have HFT := Lib.hid hft
  have HCB := Lib.hid hcb
  have HUP := Lib.hid hup
  have HLK := Lib.hid hlk
  have HC := Lib.hid hc
  have hl16 : F.length ≤ 16 := by omega
  clear kp hba hck hft hft0 hcb hup hlk hc hn hv hm hml hx hf ho hw h0 hl hk hFl
  go_enter Tryz.func27, Tryz.ntmps27
  go_wp2_with fail
  refine (HCK.out _ HBA.out).mono ?_
  rintro e w1 ⟨rfl, hb1⟩
  have k1 := KP.out.below hb1 KP.out.lt
  have hq1 := HBA.out.trans (hb1.mono HBA.out.size)
  have s0 : w1.cell? ⟨w.heap.size, 0, none⟩ = some (.int .i64 (p : Int)) := k1.cell 0
  have s1 : w1.cell? ⟨w.heap.size, 1, none⟩ = some (.int .i64 (need : Int)) := k1.cell 1
  have s2 : w1.cell? ⟨w.heap.size, 2, none⟩ = some (.int .i64 (hold : Int)) := k1.cell 2
  have s3 : w1.cell? ⟨w.heap.size, 3, none⟩ = some (.int .i64 ep) := k1.cell 3
  have s4 : w1.cell? ⟨w.heap.size, 4, none⟩ = some (.slice Am nm cm) := k1.cell 4
  have s5 : w1.cell? ⟨w.heap.size, 5, none⟩ = some (.string (shaOf key)) := k1.cell 5
  have K1 := Lib.hid k1
  have HB1 := Lib.hid hq1
  clear k1 hq1 hb1
  go_wp2_with fail
  refine (HFT.out _ HB1.out).mono ?_
  rintro e w2 ⟨v2, rfl, hv2, hb2⟩
  have k2 := K1.out.below hb2 K1.out.lt
  have hq2 := HB1.out.trans (hb2.mono HB1.out.size)
  have t0 : w2.cell? ⟨w.heap.size, 0, none⟩ = some (.int .i64 (p : Int)) := k2.cell 0
  have t1 : w2.cell? ⟨w.heap.size, 1, none⟩ = some (.int .i64 (need : Int)) := k2.cell 1
  have t2 : w2.cell? ⟨w.heap.size, 2, none⟩ = some (.int .i64 (hold : Int)) := k2.cell 2
  have hsh := hv2.at_
  obtain ⟨A2, n2', c2, rfl, hn2', -⟩ := id hsh
  have HN := Lib.hid hn2'
  have hl17 : n2' ≤ 16 := by omega
  have HSH := Lib.hid hsh
  have K2 := Lib.hid k2
  have HB2 := Lib.hid hq2
  clear k2 hq2 hb2 hv2 hsh s0 s1 s2 s3 s4 s5 hn2' hl16
  by_cases hfew : n2' < need
  · have d1 : decide ((n2' : Int) < (need : Int)) = true := decide_eq_true (by omega)
    have d2 : decide (n2' < need) = true := decide_eq_true hfew
    have e1 : F.length < need := by rw [← HN.out]; exact hfew
    have r1 : R = ⟨#[]⟩ := by rw [← HR.out, if_pos e1]
    have r2 : E = 5 := by rw [← HE.out, if_pos e1]
    have R1 := Lib.hid r1
    have R2 := Lib.hid r2
    clear e1 hfew r1 r2
    go_wp2_with fail
    go_ret2
    exact ⟨by rw [R1.out, R2.out]; rfl, HB2.out⟩
  · have d1 : decide ((n2' : Int) < (need : Int)) = false := decide_eq_false (by omega)
    have d2 : decide (n2' < need) = false := decide_eq_false hfew
    have e1 : ¬ F.length < need := by rw [← HN.out]; exact hfew
    have hnl : need ≤ F.length := by omega
    have r1 : R = key := by rw [← HR.out, if_neg e1]
    have r2 : E = 0 := by rw [← HE.out, if_neg e1]
    have R1 := Lib.hid r1
    have R2 := Lib.hid r2
    clear r1 r2
    have hcb2 := HCB.out w2 HB2.out _ _ HSH.out (fun b hb => hb.2) hnl
    rw [HC.out hnl] at hcb2
    have HCB2 := Lib.hid hcb2
    clear e1 hfew hnl hcb2
    go_wp2_with fail
    refine HCB2.out.mono ?_
    rintro e w3 ⟨v3, rfl, hv3, hb3⟩
    have k3 := K2.out.below hb3 K2.out.lt
    have hq3 := HB2.out.trans (hb3.mono HB2.out.size)
    have s0 : w3.cell? ⟨w.heap.size, 0, none⟩ = some (.int .i64 (p : Int)) := k3.cell 0
    have hup := HUP.out w3 hq3 v3 _ hv3 (fun b hb => hb.2)
    have HUP3 := Lib.hid hup
    have K3 := Lib.hid k3
    have HB3 := Lib.hid hq3
    clear k3 hq3 hb3 hv3 hup t0 t1 t2
    go_wp2_with fail
    refine HUP3.out.mono ?_
    rintro e w4 ⟨rfl, hb4⟩
    have k4 := K3.out.below hb4 K3.out.lt
    have hq4 := HB3.out.trans (hb4.mono HB3.out.size)
    have t5 : w4.cell? ⟨w.heap.size, 5, none⟩ = some (.string (shaOf key)) := k4.cell 5
    clear s0 hb4 k4
    go_wp2_with fail
    go_region_held3 (fun W => W.cell? ⟨w.heap.size, 5, none⟩ = some (.string (shaOf key)) ∧ Below w.heap.size w W)
      (first
        | exact ⟨t5, hq4.drew⟩
        | (go_split_ands
           refine ⟨?_, ?_⟩
           · (rw [hbk.cell (World.block_lt_of_cell? _ _ ‹_›)]; assumption)
           · exact Below.trans ‹Below w.heap.size w _› (hbk.mono (‹Below w.heap.size w _›).size)))
      (first
        | (go_at_call 14; ((with_reducible refine (HLK.out _).mono ?_); rintro e wk ⟨rfl, hbk⟩)))
    all_goals
      go_split_ands
      have hbf : Below w.heap.size w wk := by assumption
      go_wp2_with fail
      go_ret2
      exact ⟨by rw [R1.out, R2.out]; rfl, hbf⟩
end Go.Proofs.YtjfphobfikadlaaGreatDoor
namespace Go.Proofs.YtjfphobfikadlaaGreatDoor
open Go.RowKit Num

def RplPost (P N H : Int) (lock : ByteArray) (marks : List ByteArray) (L : List Sh) (w : World) (e : Ending) (w' : World) : Prop :=
  ∃ A n c vl, e = .returned (.tuple #[.agg #[.int .i64 P, .int .i64 N, .int .i64 H, .int .i64 1, .slice A n c, .string lock], vl, .int .i64 0]) ∧ StrsAt w' (fun b => w.heap.size ≤ b ∧ b < w'.heap.size) (.slice A n c) marks ∧ ShAt w' (fun b => w.heap.size ≤ b ∧ b < w'.heap.size) vl L ∧ Below w.heap.size w w'
set_option maxRecDepth 100000 in
set_option maxHeartbeats 2000000 in
theorem f_Replace (P N H : Int) (Am : Option Addr) (nm cm : Nat) (Al : Option Addr) (nl cl : Nat) (vr : Value) (lock lock2 key : ByteArray) (marks : List ByteArray) (L : List Sh) (w : World)
    (hrec : ∀ W, Below w.heap.size w W → Calls Tryz.prog 27 #[.agg #[.int .i64 P, .int .i64 N, .int .i64 H, .int .i64 0, .slice Am nm cm, .string lock], .slice Al nl cl] W fun e w' => e = .returned (.tuple #[.string key, .int .i64 0]) ∧ Below W.heap.size W w')
    (hmk : ∀ W, Below w.heap.size w W → Calls Tryz.prog 21 #[.agg #[.int .i64 P, .int .i64 N, .int .i64 H], .string key, vr] W fun e w' => ∃ vm vl, e = .returned (.tuple #[.agg #[.int .i64 P, .int .i64 N, .int .i64 H, .int .i64 0, vm, .string lock2], vl, .int .i64 0]) ∧ StrsAt w' (fun b => W.heap.size ≤ b ∧ b < w'.heap.size) vm marks ∧ ShAt w' (fun b => W.heap.size ≤ b ∧ b < w'.heap.size) vl L ∧ Below W.heap.size W w') :
    Calls Tryz.prog 40 #[.agg #[.int .i64 P, .int .i64 N, .int .i64 H, .int .i64 0, .slice Am nm cm, .string lock], .slice Al nl cl, .agg #[.int .i64 P, .int .i64 N, .int .i64 H], vr] w (RplPost P N H lock2 marks L w) := by
  have HREC := Lib.hid hrec
  have HMK := Lib.hid hmk
  clear hrec hmk
  obtain ⟨wA, hA⟩ : ∃ wA, w.alloc (.cells #[.int .i64 P, .int .i64 N, .int .i64 H, .int .i64 0, .slice Am nm cm, .string lock] 40) = wA := ⟨_, rfl⟩
  have kA : Blk wA w.heap.size 40 #[.int .i64 P, .int .i64 N, .int .i64 H, .int .i64 0, .slice Am nm cm, .string lock] := by rw [← hA]; exact Blk.new w _ _
  have zA : wA.heap.size = w.heap.size + 1 := by rw [← hA]; simp
  have bA : Below w.heap.size w wA := by rw [← hA]; exact (Below.refl _ _).alloc (Nat.le_refl _) _
  obtain ⟨wB, hB⟩ : ∃ wB, wA.alloc (.cells #[.int .i64 P, .int .i64 N, .int .i64 H] 34) = wB := ⟨_, rfl⟩
  have kB : Blk wB (w.heap.size + 1) 34 #[.int .i64 P, .int .i64 N, .int .i64 H] := by rw [← hB, ← zA]; exact Blk.new wA _ _
  have zB : wB.heap.size = w.heap.size + 2 := by rw [← hB]; simp; omega
  have kA2 : Blk wB w.heap.size 40 #[.int .i64 P, .int .i64 N, .int .i64 H, .int .i64 0, .slice Am nm cm, .string lock] := by rw [← hB]; exact kA.alloc _
  have bB : Below w.heap.size w wB := by rw [← hB]; exact bA.alloc (by omega) _
  obtain ⟨wC, hC⟩ : ∃ wC, wB.alloc (.cells #[.int .i64 0, .int .i64 0, .int .i64 0, .int .i64 0, .slice none 0 0, .string ⟨#[]⟩] 40) = wC := ⟨_, rfl⟩
  have kC : Blk wC (w.heap.size + 2) 40 #[.int .i64 0, .int .i64 0, .int .i64 0, .int .i64 0, .slice none 0 0, .string ⟨#[]⟩] := by rw [← hC, ← zB]; exact Blk.new wB _ _
  have zC : wC.heap.size = w.heap.size + 3 := by rw [← hC]; simp; omega
  have kA3 : Blk wC w.heap.size 40 #[.int .i64 P, .int .i64 N, .int .i64 H, .int .i64 0, .slice Am nm cm, .string lock] := by rw [← hC]; exact kA2.alloc _
  have kB3 : Blk wC (w.heap.size + 1) 34 #[.int .i64 P, .int .i64 N, .int .i64 H] := by rw [← hC]; exact kB.alloc _
  have bC : Below w.heap.size w wC := by rw [← hC]; exact bB.alloc (by omega) _
  have KA := Lib.hid kA3
  have KB := Lib.hid kB3
  have KC := Lib.hid kC
  have BC := Lib.hid bC
  have a0 : wC.cell? ⟨w.heap.size, 0, none⟩ = some (.int .i64 P) := kA3.cell 0
  have a1 : wC.cell? ⟨w.heap.size, 1, none⟩ = some (.int .i64 N) := kA3.cell 1
  have a2 : wC.cell? ⟨w.heap.size, 2, none⟩ = some (.int .i64 H) := kA3.cell 2
  have a3 : wC.cell? ⟨w.heap.size, 3, none⟩ = some (.int .i64 0) := kA3.cell 3
  have a4 : wC.cell? ⟨w.heap.size, 4, none⟩ = some (.slice Am nm cm) := kA3.cell 4
  have a5 : wC.cell? ⟨w.heap.size, 5, none⟩ = some (.string lock) := kA3.cell 5
  subst hA hB hC
  clear kA kB kA2 kA3 kB3 kC bA bB bC
  go_enter Tryz.func40, Tryz.ntmps40
  go_upto_region 1 with fail
  generalize ((w.alloc (.cells #[.int .i64 P, .int .i64 N, .int .i64 H, .int .i64 0, .slice Am nm cm, .string lock] 40)).alloc (.cells #[.int .i64 P, .int .i64 N, .int .i64 H] 34)).alloc (.cells #[.int .i64 0, .int .i64 0, .int .i64 0, .int .i64 0, .slice none 0 0, .string ⟨#[]⟩] 40) = wC at *
  go_wp2_with fail
  refine (HREC.out _ BC.out).mono ?_
  rintro e w1 ⟨rfl, hb1⟩
  have kb1 := KB.out.below hb1 KB.out.lt
  have ka1 := KA.out.below hb1 KA.out.lt
  have kc1 := KC.out.below hb1 KC.out.lt
  have bb1 := BC.out.trans (hb1.mono BC.out.size)
  have b0 : w1.cell? ⟨w.heap.size + 1, 0, none⟩ = some (.int .i64 P) := kb1.cell 0
  have b1 : w1.cell? ⟨w.heap.size + 1, 1, none⟩ = some (.int .i64 N) := kb1.cell 1
  have b2 : w1.cell? ⟨w.heap.size + 1, 2, none⟩ = some (.int .i64 H) := kb1.cell 2
  have hz1 := hb1.size
  have KA1 := Lib.hid ka1
  have KC1 := Lib.hid kc1
  have BB1 := Lib.hid bb1
  clear a0 a1 a2 a3 a4 a5 hb1 ka1 kb1 kc1 bb1 zA zB
  go_wp2_with fail
  refine (HMK.out _ BB1.out).mono ?_
  rintro e w2 ⟨vm, vl, rfl, hvm, hvl, hb2⟩
  obtain ⟨A2, n2, c2, rfl, -⟩ := id hvm
  obtain ⟨A3, n3, c3, rfl, -⟩ := id hvl
  have ka2 := KA1.out.below hb2 KA1.out.lt
  have kc2 := KC1.out.below hb2 KC1.out.lt
  have bb2 := BB1.out.trans (hb2.mono BB1.out.size)
  have hz2 := hb2.size
  have y3 : ∀ o : Obj, (w2.alloc o).cell? ⟨w.heap.size, 3, none⟩ = some (.int .i64 0) := fun o => (ka2.alloc o).cell 3
  have x0 : ∀ o : Obj, (w2.alloc o).cell? ⟨w.heap.size + 2, 0, none⟩ = some (.int .i64 0) := fun o => (kc2.alloc o).cell 0
  have f0 : ∀ o : Obj, (w2.alloc o).frozen? ⟨w.heap.size + 2, 0, none⟩ = false := fun o => (kc2.alloc o).frozen 0
  have x1 : ∀ o : Obj, (w2.alloc o).cell? ⟨w.heap.size + 2, 1, none⟩ = some (.int .i64 0) := fun o => (kc2.alloc o).cell 1
  have f1 : ∀ o : Obj, (w2.alloc o).frozen? ⟨w.heap.size + 2, 1, none⟩ = false := fun o => (kc2.alloc o).frozen 1
  have x2 : ∀ o : Obj, (w2.alloc o).cell? ⟨w.heap.size + 2, 2, none⟩ = some (.int .i64 0) := fun o => (kc2.alloc o).cell 2
  have f2 : ∀ o : Obj, (w2.alloc o).frozen? ⟨w.heap.size + 2, 2, none⟩ = false := fun o => (kc2.alloc o).frozen 2
  have x3 : ∀ o : Obj, (w2.alloc o).cell? ⟨w.heap.size + 2, 3, none⟩ = some (.int .i64 0) := fun o => (kc2.alloc o).cell 3
  have f3 : ∀ o : Obj, (w2.alloc o).frozen? ⟨w.heap.size + 2, 3, none⟩ = false := fun o => (kc2.alloc o).frozen 3
  have x4 : ∀ o : Obj, (w2.alloc o).cell? ⟨w.heap.size + 2, 4, none⟩ = some (.slice none 0 0) := fun o => (kc2.alloc o).cell 4
  have f4 : ∀ o : Obj, (w2.alloc o).frozen? ⟨w.heap.size + 2, 4, none⟩ = false := fun o => (kc2.alloc o).frozen 4
  have x5 : ∀ o : Obj, (w2.alloc o).cell? ⟨w.heap.size + 2, 5, none⟩ = some (.string ⟨#[]⟩) := fun o => (kc2.alloc o).cell 5
  have f5 : ∀ o : Obj, (w2.alloc o).frozen? ⟨w.heap.size + 2, 5, none⟩ = false := fun o => (kc2.alloc o).frozen 5
  have KC2 := Lib.hid kc2
  have BB2 := Lib.hid bb2
  have HVM := Lib.hid hvm
  have HVL := Lib.hid hvl
  have zz : w.heap.size + 3 ≤ w1.heap.size := by omega
  clear b0 b1 b2 ka2 kc2 bb2 hvm hvl hb2
  go_wp2_with fail
  obtain ⟨k6, g6⟩ := circ_set (KC2.out.alloc (.cells #[.int .i64 P, .int .i64 N, .int .i64 H, .int .i64 1, .slice A2 n2 c2, .string lock2] 40)) (.int .i64 P) (.int .i64 N) (.int .i64 H) (.int .i64 1) (.slice A2 n2 c2) (.string lock2)
  clear x0 x1 x2 x3 x4 x5 f0 f1 f2 f3 f4 f5 y3
  have ha2 : Below w2.heap.size w2 (w2.alloc (.cells #[.int .i64 P, .int .i64 N, .int .i64 H, .int .i64 1, .slice A2 n2 c2, .string lock2] 40)) := (Below.refl _ _).alloc (Nat.le_refl _) _
  generalize (w2.alloc (.cells #[.int .i64 P, .int .i64 N, .int .i64 H, .int .i64 1, .slice A2 n2 c2, .string lock2] 40)) = w3 at *
  generalize ((((((w3.setCell ⟨w.heap.size + 2, 0, none⟩ (.int .i64 P)).setCell ⟨w.heap.size + 2, 1, none⟩ (.int .i64 N)).setCell ⟨w.heap.size + 2, 2, none⟩ (.int .i64 H)).setCell ⟨w.heap.size + 2, 3, none⟩ (.int .i64 1)).setCell ⟨w.heap.size + 2, 4, none⟩ (.slice A2 n2 c2)).setCell ⟨w.heap.size + 2, 5, none⟩ (.string lock2)) = wf at *
  have q0 : wf.cell? ⟨w.heap.size + 2, 0, none⟩ = some (.int .i64 P) := k6.cell 0
  have q1 : wf.cell? ⟨w.heap.size + 2, 1, none⟩ = some (.int .i64 N) := k6.cell 1
  have q2 : wf.cell? ⟨w.heap.size + 2, 2, none⟩ = some (.int .i64 H) := k6.cell 2
  have q3 : wf.cell? ⟨w.heap.size + 2, 3, none⟩ = some (.int .i64 1) := k6.cell 3
  have q4 : wf.cell? ⟨w.heap.size + 2, 4, none⟩ = some (.slice A2 n2 c2) := k6.cell 4
  have q5 : wf.cell? ⟨w.heap.size + 2, 5, none⟩ = some (.string lock2) := k6.cell 5
  have hz3 := ha2.size
  have hzf := g6.size
  have hkeep : ∀ b, w1.heap.size ≤ b ∧ b < w2.heap.size → wf.heap[b]? = w2.heap[b]? := fun b hb => (g6.block b (by omega) (fun e => by injection e with e; omega)).trans (ha2.block b hb.2)
  have hbf : Below w.heap.size w wf := (BB2.out.trans (ha2.mono BB2.out.size)).grown g6 (by omega) (fun x hx => by injection hx with hx; omega)
  exact bodyPost_ret (v := .tuple #[.agg #[.int .i64 P, .int .i64 N, .int .i64 H, .int .i64 1, .slice A2 n2 c2, .string lock2], .slice A3 n3 c3, .int .i64 0]) (by simp [results, Tryz.results40, go_sem, q0, q1, q2, q3, q4, q5]) rfl
    ⟨A2, n2, c2, _, rfl, (HVM.out.keep hkeep).mono fun b hb => ⟨by omega, by omega⟩, (HVL.out.keep hkeep).mono fun b hb => ⟨by omega, by omega⟩, hbf⟩
end Go.Proofs.YtjfphobfikadlaaGreatDoor
namespace Go.Proofs.YtjfphobfikadlaaGreatDoor
open Go.RowKit Num

def WordPost (b n : Nat) (ss : Nat → ByteArray) (w : World) (e : Ending) (w' : World) : Prop := ∃ r : Nat, r < n ∧ e = .returned (.string (ss r)) ∧ Dc w' b ∧ w.grownBy w' (some b)
set_option maxHeartbeats 1000000 in
theorem k_Word (b g off n c : Nat) (ss : Nat → ByteArray) (w : World) (hd : Dc w b) (hg : g < w.heap.size) (hne : g ≠ b) (h1 : 1 ≤ n) (h2 : n ≤ 1000000) (hc : ∀ i, i < n → w.cell? ⟨g, off + i, none⟩ = some (.string (ss i))) :
    Calls Tryz.prog 65 #[.pointer (some ⟨b, 0, none⟩), .slice (some ⟨g, off, none⟩) n c] w (WordPost b n ss w) := by
  have HC := Lib.hid hc
  have HD := Lib.hid hd
  clear hc hd
  go_enter Tryz.func65, Tryz.ntmps65
  go_wp2_with fail
  refine (k_Next b n _ HD.out h1 (by omega)).mono ?_
  rintro e w1 ⟨r, hr, rfl, hd1, hg1⟩
  have hcell : w1.cell? ⟨g, off + r, none⟩ = some (.string (ss r)) := (World.cell?_of_block (hg1.block g hg (by intro e; injection e with e; exact hne e))).trans (HC.out r hr)
  have HD1 := Lib.hid hd1
  have HG1 := Lib.hid hg1
  have qr : (r : Int) < (n : Int) := by omega
  have q0 : (0 : Int) ≤ (r : Int) := by omega
  clear hd1 hg1
  go_wp2_with fail
  go_ret
  exact ⟨r, hr, rfl, HD1.out, HG1.out⟩
theorem getD_eq_of {xs ys : List Int} (hl : xs.length = ys.length) (h : ∀ q, q < xs.length → xs.getD q 0 = ys.getD q 0) : xs = ys := by
  apply List.ext_getElem hl
  intro i h1 h2
  have := h i h1
  rwa [List.getD_eq_getElem?_getD, List.getD_eq_getElem?_getD, List.getElem?_eq_getElem h1, List.getElem?_eq_getElem h2] at this
set_option maxRecDepth 100000 in
set_option maxHeartbeats 1000000 in
theorem r_Same (v u : Value) (xs ys : List Int) (S T : Nat → Prop) (w : World) (hv : IntsAt w S v xs) (hu : IntsAt w T u ys) (hl : xs.length ≤ 1000000) (hl2 : ys.length ≤ 1000000) :
    Calls Tryz.prog 52 #[v, u] w fun e w' => e = .returned (.bool (decide (xs = ys))) ∧ w = w' := by
  obtain ⟨A, n, c, rfl, hn, hnc, hx⟩ := hv
  obtain ⟨B, m, k, rfl, hm, hmk, hy⟩ := hu
  have n1 : n ≤ 1000000 := by omega
  have m1 : m ≤ 1000000 := by omega
  have HN := Lib.hid hn
  have HM := Lib.hid hm
  have HX := Lib.hid hx
  have HY := Lib.hid hy
  clear hn hm hx hy hl hl2
  by_cases hnm : n = m
  · have t0 : ((n : Int) != (m : Int)) = false := by simp; omega
    have HNM := Lib.hid hnm
    clear hnm
    go_enter Tryz.func52, Tryz.ntmps52
    go_wp2_with fail
    go_loopw [14] (fun t wr => ∃ k : Nat, k ≤ n ∧ t = .int .i64 k ∧ w = wr ∧ ∀ q, q < k → xs.getD q 0 = ys.getD q 0) (fun t _ => n - (intOf t).toNat)
    case atStart => exact ⟨0, by omega, rfl, rfl, fun q hq => absurd hq (by omega)⟩
    case round =>
      obtain ⟨k, hk, rfl, rfl, hq⟩ := hrel
      have HQ := Lib.hid hq
      clear hq
      by_cases hlt : k < n
      · obtain ⟨b, off, rfl, -, hc⟩ := HX.out (by omega)
        obtain ⟨b', off', rfl, -, hc'⟩ := HY.out (by have := HNM.out; omega)
        have c0 := hc k hlt
        have c1 := hc' k (by have := HNM.out; omega)
        have qk : (k : Int) < (n : Int) := by omega
        have qm : (k : Int) < (m : Int) := by have := HNM.out; omega
        clear hc hc'
        obtain ⟨x, hx⟩ : ∃ x, xs.getD k 0 = x := ⟨_, rfl⟩
        obtain ⟨y, hy⟩ : ∃ y, ys.getD k 0 = y := ⟨_, rfl⟩
        rw [hx] at c0
        rw [hy] at c1
        have HXX := Lib.hid hx
        have HYY := Lib.hid hy
        clear hx hy
        by_cases hxy : x = y
        · have t1 : ((y : Int) != x) = false := by simp [hxy]
          have HXY := Lib.hid hxy
          clear hxy
          go_wp2_with fail
          go_roundw
          case measure => simp [intOf]; omega
          case rel => exact ⟨k + 1, by omega, by go_num, (by first | rfl | trivial), fun q hq => by
            rcases Nat.lt_or_ge q k with h | h
            · exact HQ.out q h
            · have : q = k := by omega
              subst this; rw [HXX.out, HYY.out]; exact HXY.out⟩
        · have t1 : ((y : Int) != x) = true := by rw [bne_iff_ne]; exact fun h => hxy h.symm
          go_wp2_with fail
          go_ret
          refine ⟨?_, rfl⟩
          rw [decide_eq_false (fun h => hxy (by rw [← HXX.out, ← HYY.out, h]))]
          rfl
      · have hkn : k = n := by omega
        have hj0 : ¬ (k : Int) < (n : Int) := by omega
        go_wp2_with fail
        go_ret
        refine ⟨?_, rfl⟩
        rw [decide_eq_true (getD_eq_of (by rw [← HN.out, ← HM.out]; exact HNM.out) (fun q hq => HQ.out q (by rw [← HN.out] at hq; omega)))]
        rfl
  · have t0 : ((n : Int) != (m : Int)) = true := by rw [bne_iff_ne]; omega
    go_enter Tryz.func52, Tryz.ntmps52
    go_wp2_with fail
    go_ret
    refine ⟨?_, rfl⟩
    rw [decide_eq_false (fun h => hnm (by rw [HN.out, HM.out, h]))]
    rfl
end Go.Proofs.YtjfphobfikadlaaGreatDoor
