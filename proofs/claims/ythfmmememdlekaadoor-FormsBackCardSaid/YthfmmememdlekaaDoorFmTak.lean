/- Contracts: a word is taken, if it fulfils a condition; else the reader panics. -/
import Derived.Test.YthfmmememdlekaaDoorFmWrd
set_option linter.unusedVariables false
set_option linter.unusedSimpArgs false
namespace Go.Proofs.YthfmmememdlekaaDoor
open Go.RowKit Num

/-- What taking comes to. -/
def TakePost (w : World) (rb : Nat) (s : ByteArray) (r : List UInt8) (o : Option (List UInt8 × List UInt8)) (e : Ending) (w' : World) : Prop :=
  w.grownBy w' (some rb) ∧ match o with
    | none => e = .panicked (wrongCh (posR s r : Int))
    | some (x, q) => e = .returned (.string (bsOf x)) ∧ Rd w' rb s q
theorem takeB_none {p : List UInt8 → Bool} {r : List UInt8} (h : wordB r = [] ∨ p (wordB r) = false) : takeB p r = none := by
  unfold takeB
  rw [if_neg]
  rintro ⟨h1, h2⟩
  rcases h with h | h
  · exact h1 h
  · rw [h] at h2; cases h2
theorem takeB_some {p : List UInt8 → Bool} {r : List UInt8} (h1 : wordB r ≠ []) (h2 : p (wordB r) = true) : takeB p r = some (wordB r, spaceB (r.drop (wordB r).length)) := by
  unfold takeB
  rw [if_pos ⟨h1, h2⟩]
theorem drewN_heap (w : World) (n : Nat) : (w.drewN n).heap = w.heap := rfl
theorem callFunc_body {K : FuncId} {fn : Func} (hf : Tryd.prog.funcs[K]? = some fn) (hb : fn.body.isNone = false) (hname : (fn.name == "runtime.NumGoroutine") = false) (args : Array Value) (W : World) : (callFunc K args).run Tryd.prog W = .ok (.enter K args) W := by
  have h1 : fn.name ≠ "runtime.NumGoroutine" := by simpa using hname
  have h2 : ¬ fn.body = none := by intro h; rw [h] at hb; cases hb
  simp [callFunc, hf, h1, h2, Sem.run]
theorem toList_ne {l : List UInt8} (h : l ≠ []) : ((bsOf l).toList == []) = false ∧ (!(bsOf l).toList.isEmpty) = true ∧ ¬ (bsOf l).toList = [] := by
  have e : (bsOf l).toList = l := by rw [ByteArray.toList_eq]; rfl
  rw [e]
  cases l with
  | nil => exact absurd rfl h
  | cons a r => exact ⟨rfl, rfl, by simp⟩
set_option maxRecDepth 100000 in
set_option maxHeartbeats 2000000 in
theorem f_take (rb K : Nat) (s : ByteArray) (r : List UInt8) (p : List UInt8 → Bool) (w : World) (hr : Rd w rb s r) (hs : s.size ≤ 100000) (hl : LibOk w)
    (hcf : ∀ (args : Array Value) (W : World), (callFunc K args).run Tryd.prog W = .ok (.enter K args) W)
    (his : ∀ n, wordB r ≠ [] → Calls Tryd.prog K #[.string (bsOf (wordB r))] (w.drewN n) (BoolBel (p (wordB r)) (w.drewN n))) :
    Calls Tryd.prog 58 #[.pointer (some ⟨rb, 0, none⟩), .func (.func K) #[] #[]] w (TakePost w rb s r (takeB p r)) := by
  obtain ⟨hb, hp, hdr, hrl⟩ := hr.pos
  have hwl := word_len r
  have HR := Lib.hid hr
  have HIS := Lib.hid his
  have HLI := Lib.hid hl
  have HB := Lib.hid hb
  have HDR := Lib.hid hdr
  have hrbl := hr.lt
  clear hr his hl hb hdr
  by_cases h0 : wordB r = []
  · have h1 : (bsOf (wordB r)) = ⟨#[]⟩ := by rw [h0]; rfl
    have H0 := Lib.hid h0
    have H1 := Lib.hid h1
    clear h0 h1
    go_enter Tryd.func58, Tryd.ntmps58
    go_wp2_with fail
    refine (f_word rb s r w HR.out hs HLI.out).mono ?_
    rintro e w1 ⟨rfl, n, rfl⟩
    rw [H1.out]
    go_wp2_with fail
    refine (f_fail rb (posR s r) s _ (HB.out.drewN _)).mono ?_
    rintro e w1 ⟨rfl, rfl⟩
    go_wp2_with fail
    refine ⟨rfl, grown_drewN _ _ _, ?_⟩
    rw [takeB_none (.inl H0.out)]
  · obtain ⟨z1, z2, z3⟩ := toList_ne h0
    cases hp0 : p (wordB r) with
    | false =>
      have H0 := Lib.hid h0
      have HP0 := Lib.hid hp0
      clear h0 hp0
      go_enter Tryd.func58, Tryd.ntmps58
      go_wp2_with fail
      refine (f_word rb s r w HR.out hs HLI.out).mono ?_
      rintro e w1 ⟨rfl, n, rfl⟩
      go_wp2_with fail
      refine (HIS.out n H0.out).mono ?_
      rw [HP0.out]
      rintro e w1 ⟨rfl, hb1⟩
      have hb2 : Blk w1 rb 83 #[.string s, .int .i64 (posR s r : Int)] := (hb1.block rb hrbl).trans HB.out
      have HB2 := Lib.hid hb2
      clear hb2
      go_wp2_with fail
      refine (f_fail rb (posR s r) s _ HB2.out).mono ?_
      rintro e w1 ⟨rfl, rfl⟩
      go_wp2_with fail
      refine ⟨rfl, (grown_drewN w n _).trans (only_of_below hb1 (some rb)), ?_⟩
      rw [takeB_none (.inr HP0.out)]
    | true =>
      have H0 := Lib.hid h0
      have HP0 := Lib.hid hp0
      have hsz := bsOf_data' (wordB r)
      have hq1 : posR s r + (wordB r).length ≤ s.size := by unfold posR; omega
      have hq2 : (blOf s).drop (posR s r + (wordB r).length) = r.drop (wordB r).length := by rw [← List.drop_drop, HDR.out]
      have HSZ := Lib.hid hsz
      have HQ2 := Lib.hid hq2
      have q3 : posR s r + (bsOf (wordB r)).size ≤ 100000 := by omega
      clear h0 hp0 hsz hq2
      go_enter Tryd.func58, Tryd.ntmps58
      go_wp2_with fail
      refine (f_word rb s r w HR.out hs HLI.out).mono ?_
      rintro e w1 ⟨rfl, n, rfl⟩
      go_wp2_with fail
      refine (HIS.out n H0.out).mono ?_
      rw [HP0.out]
      rintro e w1 ⟨rfl, hb1⟩
      have hb2 : Blk w1 rb 83 #[.string s, .int .i64 (posR s r : Int)] := (hb1.block rb hrbl).trans HB.out
      have c1 := (hb2.cell 1).trans (show _ = some (Value.int .i64 (posR s r : Int)) from rfl)
      have f1 := hb2.frozen 1
      have hb3 : Blk (w1.setCell ⟨rb, 1, none⟩ (.int .i64 ((posR s r : Int) + ((bsOf (wordB r)).size : Int)))) rb 83 #[.string s, .int .i64 ((posR s r + (wordB r).length : Nat) : Int)] := by
        have e : ((posR s r : Int) + ((bsOf (wordB r)).size : Int)) = ((posR s r + (wordB r).length : Nat) : Int) := by rw [HSZ.out]; omega
        rw [e]
        exact hb2.set_ 1 _
      have hrd3 : Rd (w1.setCell ⟨rb, 1, none⟩ (.int .i64 ((posR s r : Int) + ((bsOf (wordB r)).size : Int)))) rb s (r.drop (wordB r).length) := ⟨_, hb3, hq1, HQ2.out⟩
      have HRD3 := Lib.hid hrd3
      clear hb2 hb3 hrd3
      go_wp2_with fail
      refine (f_space rb s _ _ HRD3.out hs).mono ?_
      rintro e w4 ⟨rfl, hrd4, hg4⟩
      have HRD4 := Lib.hid hrd4
      have HG4 := Lib.hid hg4
      clear hrd4 hg4
      go_wp2_with fail
      go_ret
      refine ⟨((grown_drewN w n _).trans (only_of_below hb1 (some rb))).trans ((grown_set w1 ⟨rb, 1, none⟩ _).trans HG4.out), ?_⟩
      rw [takeB_some H0.out HP0.out]
      exact ⟨rfl, HRD4.out⟩
set_option maxRecDepth 100000 in
set_option maxHeartbeats 2000000 in
theorem f_take1 (rb K : Nat) (q : Nat) (s : ByteArray) (r : List UInt8) (p : List UInt8 → Bool) (w : World) (hr : Rd w rb s r) (hs : s.size ≤ 100000) (hl : LibOk w)
    (hcf : ∀ (args : Array Value) (W : World), (callFunc K args).run Tryd.prog W = .ok (.enter K args) W)
    (his : ∀ n, wordB r ≠ [] → Calls Tryd.prog K #[.string (bsOf (wordB r)), .pointer (some ⟨q, 0, none⟩)] (w.drewN n) (BoolBel (p (wordB r)) (w.drewN n))) :
    Calls Tryd.prog 58 #[.pointer (some ⟨rb, 0, none⟩), .func (.func K) #[] #[.pointer (some ⟨q, 0, none⟩)]] w (TakePost w rb s r (takeB p r)) := by
  obtain ⟨hb, hp, hdr, hrl⟩ := hr.pos
  have hwl := word_len r
  have HR := Lib.hid hr
  have HIS := Lib.hid his
  have HLI := Lib.hid hl
  have HB := Lib.hid hb
  have HDR := Lib.hid hdr
  have hrbl := hr.lt
  clear hr his hl hb hdr
  by_cases h0 : wordB r = []
  · have h1 : (bsOf (wordB r)) = ⟨#[]⟩ := by rw [h0]; rfl
    have H0 := Lib.hid h0
    have H1 := Lib.hid h1
    clear h0 h1
    go_enter Tryd.func58, Tryd.ntmps58
    go_wp2_with fail
    refine (f_word rb s r w HR.out hs HLI.out).mono ?_
    rintro e w1 ⟨rfl, n, rfl⟩
    rw [H1.out]
    go_wp2_with fail
    refine (f_fail rb (posR s r) s _ (HB.out.drewN _)).mono ?_
    rintro e w1 ⟨rfl, rfl⟩
    go_wp2_with fail
    refine ⟨rfl, grown_drewN _ _ _, ?_⟩
    rw [takeB_none (.inl H0.out)]
  · obtain ⟨z1, z2, z3⟩ := toList_ne h0
    cases hp0 : p (wordB r) with
    | false =>
      have H0 := Lib.hid h0
      have HP0 := Lib.hid hp0
      clear h0 hp0
      go_enter Tryd.func58, Tryd.ntmps58
      go_wp2_with fail
      refine (f_word rb s r w HR.out hs HLI.out).mono ?_
      rintro e w1 ⟨rfl, n, rfl⟩
      go_wp2_with fail
      refine (HIS.out n H0.out).mono ?_
      rw [HP0.out]
      rintro e w1 ⟨rfl, hb1⟩
      have hb2 : Blk w1 rb 83 #[.string s, .int .i64 (posR s r : Int)] := (hb1.block rb hrbl).trans HB.out
      have HB2 := Lib.hid hb2
      clear hb2
      go_wp2_with fail
      refine (f_fail rb (posR s r) s _ HB2.out).mono ?_
      rintro e w1 ⟨rfl, rfl⟩
      go_wp2_with fail
      refine ⟨rfl, (grown_drewN w n _).trans (only_of_below hb1 (some rb)), ?_⟩
      rw [takeB_none (.inr HP0.out)]
    | true =>
      have H0 := Lib.hid h0
      have HP0 := Lib.hid hp0
      have hsz := bsOf_data' (wordB r)
      have hq1 : posR s r + (wordB r).length ≤ s.size := by unfold posR; omega
      have hq2 : (blOf s).drop (posR s r + (wordB r).length) = r.drop (wordB r).length := by rw [← List.drop_drop, HDR.out]
      have HSZ := Lib.hid hsz
      have HQ2 := Lib.hid hq2
      have q3 : posR s r + (bsOf (wordB r)).size ≤ 100000 := by omega
      clear h0 hp0 hsz hq2
      go_enter Tryd.func58, Tryd.ntmps58
      go_wp2_with fail
      refine (f_word rb s r w HR.out hs HLI.out).mono ?_
      rintro e w1 ⟨rfl, n, rfl⟩
      go_wp2_with fail
      refine (HIS.out n H0.out).mono ?_
      rw [HP0.out]
      rintro e w1 ⟨rfl, hb1⟩
      have hb2 : Blk w1 rb 83 #[.string s, .int .i64 (posR s r : Int)] := (hb1.block rb hrbl).trans HB.out
      have c1 := (hb2.cell 1).trans (show _ = some (Value.int .i64 (posR s r : Int)) from rfl)
      have f1 := hb2.frozen 1
      have hb3 : Blk (w1.setCell ⟨rb, 1, none⟩ (.int .i64 ((posR s r : Int) + ((bsOf (wordB r)).size : Int)))) rb 83 #[.string s, .int .i64 ((posR s r + (wordB r).length : Nat) : Int)] := by
        have e : ((posR s r : Int) + ((bsOf (wordB r)).size : Int)) = ((posR s r + (wordB r).length : Nat) : Int) := by rw [HSZ.out]; omega
        rw [e]
        exact hb2.set_ 1 _
      have hrd3 : Rd (w1.setCell ⟨rb, 1, none⟩ (.int .i64 ((posR s r : Int) + ((bsOf (wordB r)).size : Int)))) rb s (r.drop (wordB r).length) := ⟨_, hb3, hq1, HQ2.out⟩
      have HRD3 := Lib.hid hrd3
      clear hb2 hb3 hrd3
      go_wp2_with fail
      refine (f_space rb s _ _ HRD3.out hs).mono ?_
      rintro e w4 ⟨rfl, hrd4, hg4⟩
      have HRD4 := Lib.hid hrd4
      have HG4 := Lib.hid hg4
      clear hrd4 hg4
      go_wp2_with fail
      go_ret
      refine ⟨((grown_drewN w n _).trans (only_of_below hb1 (some rb))).trans ((grown_set w1 ⟨rb, 1, none⟩ _).trans HG4.out), ?_⟩
      rw [takeB_some H0.out HP0.out]
      exact ⟨rfl, HRD4.out⟩
end Go.Proofs.YthfmmememdlekaaDoor
