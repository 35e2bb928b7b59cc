/- Contracts: forms.Parse. -/
import Derived.Test.YthfmmememdlekaaDoorFmPfT
import Derived.Test.YthfmmememdlekaaDoorFmRoot
set_option linter.unusedVariables false
set_option linter.unusedSimpArgs false
namespace Go.Proofs.YthfmmememdlekaaDoor
open Go.RowKit Num

/-- What the program makes of a text: the terms, the place, the fault's number. -/
def parseC (s : List UInt8) : List Trm × Int × Int := if 4096 < s.length then ([], 0, 3) else match parseF s with
  | .inr k => ([], (k : Int), 12)
  | .inl T => if rightB (flatT (s.length + 1) 0 T) then (flatT (s.length + 1) 0 T, 0, 0) else ([], 0, 14)
def ParseEnd (w : World) (L : List Trm) (p n : Int) (e : Ending) (w' : World) : Prop := ∃ v, e = .returned (.tuple #[.agg #[v], .int .i64 p, .int .i64 n]) ∧ TermsAt w' (· < w'.heap.size) v L ∧ Below w.heap.size w w'
theorem terms_none (w : World) (S : Nat → Prop) : TermsAt w S (.slice none 0 0) [] := ⟨none, 0, 0, rfl, rfl, Nat.le_refl _, fun h => absurd h (by omega)⟩
set_option maxRecDepth 100000 in
set_option maxHeartbeats 400000 in
theorem f_Parse_long (s : ByteArray) (w : World) (h : 4096 < s.size) (hs : s.size ≤ 100000000) :
    Calls Tryd.prog 8 #[.string s] w (ParseEnd w [] 0 3) := by
  have hb1 : Below w.heap.size w (w.alloc (.cells #[.slice none 0 0] 24)) := (Below.refl _ _).alloc (Nat.le_refl _) _
  have z1 : (4096 : Int) < (s.size : Int) := by omega
  have HB := Lib.hid hb1
  clear hb1
  go_enter Tryd.func8, Tryd.ntmps8
  go_wp2_with fail
  refine bodyPost_ret (v := .tuple #[.agg #[.slice none 0 0], .int .i64 0, .int .i64 3]) ?_ rfl ?_
  · simp [results, Tryd.results8, go_sem]
  · exact ⟨_, rfl, terms_none _ _, HB.out⟩
set_option maxRecDepth 100000 in
set_option maxHeartbeats 400000 in
theorem f_Parse_bad (s : ByteArray) (k : Nat) (w : World) (h : s.size ≤ 4096) (hl : LibOk w) (hp : parseF (blOf s) = .inr k) :
    Calls Tryd.prog 8 #[.string s] w (ParseEnd w [] (k : Int) 12) := by
  have hb1 : Below w.heap.size w (w.alloc (.cells #[.slice none 0 0] 24)) := (Below.refl _ _).alloc (Nat.le_refl _) _
  have z1 : ¬ (4096 : Int) < (s.size : Int) := by omega
  have HB := Lib.hid hb1
  have HL := Lib.hid (hl.later hb1)
  have HP := Lib.hid hp
  clear hb1 hl hp
  go_enter Tryd.func8, Tryd.ntmps8
  go_wp2_with fail
  refine (f_parse s _ (by omega) HL.out).mono ?_
  rintro e w2 ⟨hb2, h2⟩
  rw [HP.out] at h2
  obtain ⟨v, rfl⟩ := h2
  have hb3 := HB.out.trans (hb2.mono (by simp))
  have hbk : Blk w2 w.heap.size 24 #[.slice none 0 0] := (Blk.new w 24 #[.slice none 0 0]).below' hb2 (by simp)
  have hc := (hbk.cell 0).trans (show _ = some (Value.slice none 0 0) from rfl)
  have hf := hbk.frozen 0
  have HB3 := Lib.hid hb3
  have z2 : (0 : Int) ≤ (k : Int) := by omega
  clear hb2 hb3 hbk
  go_wp2_with fail
  refine bodyPost_ret (v := .tuple #[.agg #[.slice none 0 0], .int .i64 (k : Int), .int .i64 12]) ?_ rfl ?_
  · simp [results, Tryd.results8, go_sem, hc]
  · exact ⟨_, rfl, terms_none _ _, HB3.out.setCell (Nat.le_refl _) _⟩
set_option maxRecDepth 100000 in
set_option maxHeartbeats 400000 in
theorem f_Parse_ok (s : ByteArray) (T : Tree) (L : List Trm) (rb : Bool) (Lo : List Trm) (n : Int) (w : World) (h : s.size ≤ 4096) (hl : LibOk w) (hp : parseF (blOf s) = .inl T) (hL : flatT (s.size + 1) 0 T = L) (hr : rightB L = rb) (hE : Lo = (if rb then L else []) ∧ n = (if rb then 0 else 14)) :
    Calls Tryd.prog 8 #[.string s] w (ParseEnd w Lo 0 n) := by
  have hlen : L.length ≤ 4096 := by
    have h1 := parseF_terms hp (s.size + 1) 0
    have h2 := blOf_len s
    rw [hL] at h1; omega
  have hok : ∀ t ∈ L, TrmOk t := by
    intro t ht
    have h2 := blOf_len s
    obtain ⟨a1, a2, a3⟩ := parseF_tame hp (s.size + 1) 0 t (by rw [hL]; exact ht)
    exact ⟨by omega, by omega, by omega⟩
  have hb1 : Below w.heap.size w (w.alloc (.cells #[.slice none 0 0] 24)) := (Below.refl _ _).alloc (Nat.le_refl _) _
  have z1 : ¬ (4096 : Int) < (s.size : Int) := by omega
  have HB := Lib.hid hb1
  have HL := Lib.hid (hl.later hb1)
  have HP := Lib.hid hp
  have HFL := Lib.hid hL
  have HR := Lib.hid hr
  have HOK := Lib.hid hok
  have HE := Lib.hid hE
  clear hb1 hl hp hL hr hok hE
  go_enter Tryd.func8, Tryd.ntmps8
  go_wp2_with fail
  refine (f_parse s _ (by omega) HL.out).mono ?_
  rintro e w2 ⟨hb2, h2⟩
  rw [HP.out] at h2
  obtain ⟨v, rfl, ht⟩ := h2
  have hb3 := HB.out.trans (hb2.mono (by simp))
  have hbk : Blk w2 w.heap.size 24 #[.slice none 0 0] := (Blk.new w 24 #[.slice none 0 0]).below' hb2 (by simp)
  have HBK := Lib.hid hbk
  have hs2 : w.heap.size + 1 ≤ w2.heap.size := by have := hb2.size; simpa using this
  have HB3 := Lib.hid hb3
  have HT := Lib.hid ht
  obtain ⟨vb, rfl, hvb⟩ := ht.ptr
  clear hb2 hb3 hbk ht
  go_wp2_with fail
  refine (f_flat (s.size + 1) T _ _ [] (fun _ => undef) w2.heap.size _ w2 HT.out (fun b hb => hb.2) (Nat.le_refl _) (OwnTs.nil _ _ _) (by rw [show ([] : List Trm).length = 0 from rfl, HFL.out]; omega)).mono ?_
  rintro e w3 ⟨v', us', rfl, ho, hb4⟩
  rw [show ([] : List Trm) ++ flatT (s.size + 1) ([] : List Trm).length T = L from HFL.out] at ho
  have htm := ho.terms
  obtain ⟨A, c, rfl⟩ := own_slice ho.row
  have hs3 := hb4.size
  have HB5 := Lib.hid (HB3.out.trans (hb4.mono (by omega)))
  have HBK3 := Lib.hid (HBK.out.below' hb4 (by omega))
  have HTM := Lib.hid htm
  clear ho htm hb4
  go_wp2_with fail
  refine (f_Right _ L w3.heap.size _ ((HTM.out.keep (fun b hb => Below.heap_alloc w3 _ b hb.2)).mono (fun b hb => hb.2)) (by simp) (by omega) HOK.out).mono ?_
  rintro e w4 ⟨rfl, hb6⟩
  rw [HR.out]
  have hbk4 := (HBK3.out.alloc (.cells #[.slice A L.length c] 24)).below' hb6 (by simp; omega)
  have hbn4 : Blk w4 w3.heap.size 24 #[.slice A L.length c] := (Blk.new w3 24 #[.slice A L.length c]).below' hb6 (by simp)
  have hc := (hbk4.cell 0).trans (show _ = some (Value.slice none 0 0) from rfl)
  have hf := hbk4.frozen 0
  have hc7 := (hbn4.cell 0).trans (show _ = some (Value.slice A L.length c) from rfl)
  have hs4 := hb6.size
  simp at hs4
  have HB7 := Lib.hid (HB5.out.trans (((Below.refl w3.heap.size w3).alloc (Nat.le_refl _) (.cells #[.slice A L.length c] 24)).trans (hb6.mono (by simp))|>.mono (by omega)))
  have HTM4 := Lib.hid ((HTM.out.keep (w' := w4) (fun b hb => ((hb6.block b (by have := hb.2; simp; omega)).trans (Below.heap_alloc w3 _ b hb.2)))))
  clear hb6 hbk4 hbn4
  cases rb
  · have HE2 := Lib.hid (show Lo = [] ∧ n = 14 from HE.out)
    go_wp2_with fail
    refine bodyPost_ret (v := .tuple #[.agg #[.slice none 0 0], .int .i64 0, .int .i64 14]) ?_ rfl ?_
    · simp [results, Tryd.results8, go_sem, hc]
    · exact ⟨_, by rw [HE2.out.2], by rw [HE2.out.1]; exact terms_none _ _, HB7.out.setCell (Nat.le_refl _) _⟩
  · have HE2 := Lib.hid (show Lo = L ∧ n = 0 from HE.out)
    go_wp2_with fail
    refine bodyPost_ret (v := .tuple #[.agg #[.slice A L.length c], .int .i64 0, .int .i64 0]) ?_ rfl ?_
    · simp [results, Tryd.results8, go_sem, hc]
    · have hsz : (w4.setCell ⟨w.heap.size, 0, none⟩ (.slice A L.length c)).heap.size = w4.heap.size := by simp [World.setCell]
      refine ⟨_, by rw [HE2.out.2], ?_, HB7.out.setCell (Nat.le_refl _) _⟩
      rw [HE2.out.1]
      exact (HTM4.out.keep (fun b hb => Below.heap_setCell w4 ⟨w.heap.size, 0, none⟩ _ b (by have := hb.1; show b ≠ w.heap.size; omega))).mono fun b hb => by have := hb.2; rw [hsz]; omega
/-- forms.Parse on any text. -/
theorem f_Parse (s : ByteArray) (w : World) (hs : s.size ≤ 100000000) (hl : LibOk w) : Calls Tryd.prog 8 #[.string s] w (ParseEnd w (parseC (blOf s)).1 (parseC (blOf s)).2.1 (parseC (blOf s)).2.2) := by
  have h2 := blOf_len s
  unfold parseC
  split
  · exact f_Parse_long s w (by omega) hs
  · rcases hp : parseF (blOf s) with T | k
    · have h3 := f_Parse_ok s T _ _ _ _ w (by omega) hl hp rfl rfl ⟨rfl, rfl⟩
      rw [← h2] at h3
      simp only
      split
      · rename_i hr
        rw [hr] at h3; exact h3
      · rename_i hr
        rw [Bool.not_eq_true] at hr
        rw [hr] at h3; exact h3
    · exact f_Parse_bad s k w (by omega) hl hp
end Go.Proofs.YthfmmememdlekaaDoor
