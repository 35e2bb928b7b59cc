/- Plain: the terms of the reader's tree are small. Contracts: forms.Parse. -/
import Derived.Test.YthfmmememdlekaaGreatDoorV18
import Derived.Test.YthfmmememdlekaaGreatDoorV21
set_option linter.unusedVariables false
set_option linter.unusedSimpArgs false
namespace Go.Proofs.YthfmmememdlekaaGreatDoor
open Go.RowKit Num

def Tm (N : Nat) : Nat → Tree → Prop
  | 0, _ => True
  | d + 1, .node t xs => t.field.size ≤ N ∧ t.text.size ≤ N ∧ t.args = [] ∧ xs.length ≤ N ∧ ∀ x ∈ xs, Tm N d x
theorem take_word {p : List UInt8 → Bool} {q w r : List UInt8} (h : takeB p q = some (w, r)) : w.length ≤ q.length := by
  obtain ⟨h1, rfl, _, rfl⟩ := take_sp (a := []) h
  exact word_len q
theorem Tm_leaf {N : Nat} {t : Trm} (h1 : t.field.size ≤ N) (h2 : t.text.size ≤ N) (h3 : t.args = []) (d : Nat) : Tm N d (.node t []) := by
  cases d with
  | zero => trivial
  | succ d => exact ⟨h1, h2, h3, Nat.zero_le _, fun x hx => by cases hx⟩
theorem E0_le (N : Nat) : E0.size ≤ N := Nat.zero_le _
theorem one_leaf {N d : Nat} {t : Trm} (h1 : t.field.size ≤ N) (h2 : t.text.size ≤ N) (h3 : t.args = []) : ∀ x ∈ [Tree.node t []], Tm N d x := by
  intro x hx
  simp at hx; subst hx
  exact Tm_leaf h1 h2 h3 d
theorem PF_tame (N : Nat) : ∀ (f : Nat) (m : Md) (r : List UInt8) (xs : List Tree) (q : List UInt8), PF f m r = .ok xs q → r.length ≤ N → xs.length + q.length ≤ r.length + m.acc.length ∧ ∀ d, (∀ x ∈ m.acc, Tm N d x) → ∀ x ∈ xs, Tm N d x := by
  intro f
  induction f with
  | zero => intro m r xs q h; simp [PF] at h
  | succ f ih =>
    intro m r xs q h hN
    cases m with
    | cond =>
      simp only [PF] at h
      have h0 : (Md.acc .cond).length = 0 := rfl
      split at h
      · cases h
      · rename_i w r1 ht
        have l1 := take_len ht
        split at h
        · split at h
          · cases h
          · rename_i ys q' ha
            injection h with h1 h2; subst h1; subst h2
            have a1 := ih _ _ _ _ ha (by omega)
            have a2 : (Md.acc .args).length = 0 := rfl
            have a3 := (PF_len _ _ _ _ _ ha).1
            refine ⟨by simp; omega, fun d _ x hx => ?_⟩
            simp at hx; subst hx
            cases d with
            | zero => trivial
            | succ d => exact ⟨E0_le N, E0_le N, rfl, by omega, a1.2 d (fun x hx => by cases hx)⟩
        · split at h
          · split at h
            · cases h
            · rename_i n q' hn
              injection h with h1 h2; subst h1; subst h2
              have := num_len hn
              exact ⟨by simp; omega, fun d _ => one_leaf (E0_le N) (E0_le N) rfl⟩
          · split at h
            · split at h
              · cases h
              · rename_i y r2 hy
                split at h
                · cases h
                · rename_i o r3 ho
                  split at h
                  · cases h
                  · rename_i n q' hn
                    injection h with h1 h2; subst h1; subst h2
                    have a1 := num_len hy
                    have a2 := take_len ho
                    have a3 := num_len hn
                    exact ⟨by simp; omega, fun d _ => one_leaf (E0_le N) (E0_le N) rfl⟩
            · split at h
              · split at h
                · cases h
                · rename_i fd r2 h1'
                  split at h
                  · cases h
                  · rename_i tx r3 h2'
                    split at h
                    · cases h
                    · rename_i o r4 h3'
                      split at h
                      · cases h
                      · rename_i n q' hn
                        injection h with h1 h2; subst h1; subst h2
                        have a1 := take_len h1'
                        have a2 := take_len h2'
                        have a3 := take_len h3'
                        have a4 := num_len hn
                        have b1 := take_word h1'
                        have b2 := take_word h2'
                        refine ⟨by simp; omega, fun d _ => one_leaf ?_ ?_ rfl⟩
                        · show (bsOf fd).size ≤ N; rw [bsOf_data']; omega
                        · show (bsOf ((tx.drop 1).take (tx.length - 2))).size ≤ N; rw [bsOf_data', List.length_take]; omega
              · injection h with h1 h2; subst h1; subst h2
                exact ⟨by simp; omega, fun d _ => one_leaf (E0_le N) (E0_le N) rfl⟩
    | args =>
      simp only [PF] at h
      have h0 : (Md.acc .args).length = 0 := rfl
      have hc : (Md.acc .cond).length = 0 := rfl
      split at h
      · cases h
      · rename_i o r1 h1
        split at h
        · cases h
        · rename_i xs' r2 h2
          split at h
          · cases h
          · rename_i o2 r3 h3
            split at h
            · cases h
            · rename_i ys r4 h4
              have a1 := take_len h1
              have l2 := (PF_len _ _ _ _ _ h2).1
              have a2 := ih _ _ _ _ h2 (by omega)
              have a3 := take_len h3
              have l4 := (PF_len _ _ _ _ _ h4).1
              have a4 := ih _ _ _ _ h4 (by omega)
              have a5 := ih _ _ _ _ h (by omega)
              have a6 : (Md.acc (.more (xs' ++ ys))).length = xs'.length + ys.length := List.length_append
              refine ⟨by omega, fun d _ => a5.2 d fun x hx => ?_⟩
              rcases List.mem_append.1 (show x ∈ xs' ++ ys from hx) with hx | hx
              · exact a2.2 d (fun x hx => by cases hx) x hx
              · exact a4.2 d (fun x hx => by cases hx) x hx
    | more acc =>
      simp only [PF] at h
      have h0 : (Md.acc (.more acc)).length = acc.length := rfl
      have hc : (Md.acc .cond).length = 0 := rfl
      split at h
      · split at h
        · cases h
        · rename_i o r1 h1
          split at h
          · cases h
          · rename_i xs' r2 h2
            have a1 := take_len h1
            have l2 := (PF_len _ _ _ _ _ h2).1
            have a2 := ih _ _ _ _ h2 (by omega)
            have a5 := ih _ _ _ _ h (by omega)
            have a6 : (Md.acc (.more (acc ++ xs'))).length = acc.length + xs'.length := List.length_append
            refine ⟨by omega, fun d hd => a5.2 d fun x hx => ?_⟩
            rcases List.mem_append.1 (show x ∈ acc ++ xs' from hx) with hx | hx
            · exact hd x hx
            · exact a2.2 d (fun x hx => by cases hx) x hx
      · split at h
        · cases h
        · rename_i o r1 h1
          injection h with h1' h2'; subst h1'; subst h2'
          have := take_len h1
          exact ⟨by omega, fun d hd => hd⟩
def TrmLe (N : Nat) (t : Trm) : Prop := t.field.size ≤ N ∧ t.text.size ≤ N ∧ t.args.length ≤ N
theorem flatA_one_len (g : Nat → Tree → List Trm) : ∀ (xs : List Tree) (a : Nat), (flatA g a xs).1.length = xs.length := by
  intro xs
  induction xs with
  | nil => intro a; rfl
  | cons x xs ih => intro a; simp [flatA, ih]
theorem flat_tame (N : Nat) : ∀ (d a : Nat) (T : Tree), Tm N d T → ∀ t ∈ flatT d a T, TrmLe N t := by
  intro d
  induction d with
  | zero => intro a T _ t ht; cases ht
  | succ d ih =>
    intro a T hT
    obtain ⟨t, xs⟩ := T
    obtain ⟨h1, h2, h3, h4, h5⟩ := hT
    have hA : ∀ (ys : List Tree) (b : Nat), (∀ x ∈ ys, Tm N d x) → ∀ u ∈ (flatA (flatT d) b ys).2, TrmLe N u := by
      intro ys
      induction ys with
      | nil => intro b _ u hu; cases hu
      | cons y ys ihy =>
        intro b hy u hu
        rcases List.mem_append.1 (show u ∈ flatT d b y ++ _ from hu) with hu | hu
        · exact ih b y (hy y (by simp)) u hu
        · exact ihy _ (fun x hx => hy x (by simp [hx])) u hu
    intro u hu
    simp only [flatT, List.mem_cons] at hu
    rcases hu with rfl | hu
    · refine ⟨h1, h2, ?_⟩
      show (t.args ++ _).length ≤ N
      rw [h3, List.nil_append, flatA_one_len]; exact h4
    · exact hA xs _ h5 u hu
theorem parseF_tame {s : List UInt8} {T : Tree} (h : parseF s = .inl T) (d a : Nat) : ∀ t ∈ flatT d a T, TrmLe s.length t := by
  unfold parseF at h
  split at h
  · cases h
  · rename_i T' ys hp
    injection h with h5
    subst h5
    have h3 := space_len s
    have h1 := (PF_tame s.length _ _ _ _ _ hp h3).2 d (fun x hx => by cases hx) T' (by simp)
    exact flat_tame _ d a T' h1
  · cases h
end Go.Proofs.YthfmmememdlekaaGreatDoor
namespace Go.Proofs.YthfmmememdlekaaGreatDoor
open Go.RowKit Num

/-- What the program makes of a text: the terms, the place, the fault's number. -/
def parseC (s : List UInt8) : List Trm × Int × Int := if 4096 < s.length then ([], 0, 3) else match parseF s with
  | .inr k => ([], (k : Int), 12)
  | .inl T => if rightB (flatT (s.length + 1) 0 T) then (flatT (s.length + 1) 0 T, 0, 0) else ([], 0, 14)
def ParseEnd (w : World) (L : List Trm) (p n : Int) (e : Ending) (w' : World) : Prop := ∃ v, e = .returned (.tuple #[.agg #[v], .int .i64 p, .int .i64 n]) ∧ TermsAt w' (· < w'.heap.size) v L ∧ Below w.heap.size w w'
theorem terms_none (w : World) (S : Nat → Prop) : TermsAt w S (.slice none 0 0) [] := ⟨none, 0, 0, rfl, rfl, Nat.le_refl _, fun h => absurd h (by omega)⟩
set_option maxRecDepth 100000 in
set_option maxHeartbeats 400000 in
theorem f_Parse_long (s : ByteArray) (w : World) (h : 4096 < s.size) (hs : s.size ≤ 100000000) :
    Calls Tryz.prog 30 #[.string s] w (ParseEnd w [] 0 3) := by
  have hb1 : Below w.heap.size w (w.alloc (.cells #[.slice none 0 0] 25)) := (Below.refl _ _).alloc (Nat.le_refl _) _
  have z1 : (4096 : Int) < (s.size : Int) := by omega
  have HB := Lib.hid hb1
  clear hb1
  go_enter Tryz.func30, Tryz.ntmps30
  go_wp2_with fail
  refine bodyPost_ret (v := .tuple #[.agg #[.slice none 0 0], .int .i64 0, .int .i64 3]) ?_ rfl ?_
  · simp [results, Tryz.results30, go_sem]
  · exact ⟨_, rfl, terms_none _ _, HB.out⟩
set_option maxRecDepth 100000 in
set_option maxHeartbeats 400000 in
theorem f_Parse_bad (s : ByteArray) (k : Nat) (w : World) (h : s.size ≤ 4096) (hl : LibOk w) (hp : parseF (blOf s) = .inr k) :
    Calls Tryz.prog 30 #[.string s] w (ParseEnd w [] (k : Int) 12) := by
  have hb1 : Below w.heap.size w (w.alloc (.cells #[.slice none 0 0] 25)) := (Below.refl _ _).alloc (Nat.le_refl _) _
  have z1 : ¬ (4096 : Int) < (s.size : Int) := by omega
  have HB := Lib.hid hb1
  have HL := Lib.hid (hl.later hb1)
  have HP := Lib.hid hp
  clear hb1 hl hp
  go_enter Tryz.func30, Tryz.ntmps30
  go_wp2_with fail
  refine (f_parse s _ (by omega) HL.out).mono ?_
  rintro e w2 ⟨hb2, h2⟩
  rw [HP.out] at h2
  obtain ⟨v, rfl⟩ := h2
  have hb3 := HB.out.trans (hb2.mono (by simp))
  have hbk : Blk w2 w.heap.size 25 #[.slice none 0 0] := (Blk.new w 25 #[.slice none 0 0]).below' hb2 (by simp)
  have hc := (hbk.cell 0).trans (show _ = some (Value.slice none 0 0) from rfl)
  have hf := hbk.frozen 0
  have HB3 := Lib.hid hb3
  have z2 : (0 : Int) ≤ (k : Int) := by omega
  clear hb2 hb3 hbk
  go_wp2_with fail
  refine bodyPost_ret (v := .tuple #[.agg #[.slice none 0 0], .int .i64 (k : Int), .int .i64 12]) ?_ rfl ?_
  · simp [results, Tryz.results30, go_sem, hc]
  · exact ⟨_, rfl, terms_none _ _, HB3.out.setCell (Nat.le_refl _) _⟩
set_option maxRecDepth 100000 in
set_option maxHeartbeats 400000 in
theorem f_Parse_ok (s : ByteArray) (T : Tree) (L : List Trm) (rb : Bool) (Lo : List Trm) (n : Int) (w : World) (h : s.size ≤ 4096) (hl : LibOk w) (hp : parseF (blOf s) = .inl T) (hL : flatT (s.size + 1) 0 T = L) (hr : rightB L = rb) (hE : Lo = (if rb then L else []) ∧ n = (if rb then 0 else 14)) :
    Calls Tryz.prog 30 #[.string s] w (ParseEnd w Lo 0 n) := by
  have hlen : L.length ≤ 4096 := by
    have h1 := parseF_terms hp (s.size + 1) 0
    have h2 := blOf_len s
    rw [hL] at h1; omega
  have hok : ∀ t ∈ L, TrmOk t := by
    intro t ht
    have h2 := blOf_len s
    obtain ⟨a1, a2, a3⟩ := parseF_tame hp (s.size + 1) 0 t (by rw [hL]; exact ht)
    exact ⟨by omega, by omega, by omega⟩
  have hb1 : Below w.heap.size w (w.alloc (.cells #[.slice none 0 0] 25)) := (Below.refl _ _).alloc (Nat.le_refl _) _
  have z1 : ¬ (4096 : Int) < (s.size : Int) := by omega
  have HB := Lib.hid hb1
  have HL := Lib.hid (hl.later hb1)
  have HP := Lib.hid hp
  have HFL := Lib.hid hL
  have HR := Lib.hid hr
  have HOK := Lib.hid hok
  have HE := Lib.hid hE
  clear hb1 hl hp hL hr hok hE
  go_enter Tryz.func30, Tryz.ntmps30
  go_wp2_with fail
  refine (f_parse s _ (by omega) HL.out).mono ?_
  rintro e w2 ⟨hb2, h2⟩
  rw [HP.out] at h2
  obtain ⟨v, rfl, ht⟩ := h2
  have hb3 := HB.out.trans (hb2.mono (by simp))
  have hbk : Blk w2 w.heap.size 25 #[.slice none 0 0] := (Blk.new w 25 #[.slice none 0 0]).below' hb2 (by simp)
  have HBK := Lib.hid hbk
  have hs2 : w.heap.size + 1 ≤ w2.heap.size := by have := hb2.size; simpa using this
  have HB3 := Lib.hid hb3
  have HT := Lib.hid ht
  obtain ⟨vb, rfl, hvb⟩ := ht.ptr
  clear hb2 hb3 hbk ht
  go_wp2_with fail
  refine (f_flat (s.size + 1) T _ _ [] (fun _ => undef) w2.heap.size _ w2 HT.out (fun b hb => hb.2) (Nat.le_refl _) (OwnTs.nil _ _ _) (by rw [show ([] : List Trm).length = 0 from rfl, HFL.out]; omega)).mono ?_
  rintro e w3 ⟨v', us', rfl, ho, hb4⟩
  rw [show ([] : List Trm) ++ flatT (s.size + 1) ([] : List Trm).length T = L from HFL.out] at ho
  have htm := ho.terms
  obtain ⟨A, c, rfl⟩ := own_slice ho.row
  have hs3 := hb4.size
  have HB5 := Lib.hid (HB3.out.trans (hb4.mono (by omega)))
  have HBK3 := Lib.hid (HBK.out.below' hb4 (by omega))
  have HTM := Lib.hid htm
  clear ho htm hb4
  go_wp2_with fail
  refine (f_Right _ L w3.heap.size _ ((HTM.out.keep (fun b hb => Below.heap_alloc w3 _ b hb.2)).mono (fun b hb => hb.2)) (by simp) (by omega) HOK.out).mono ?_
  rintro e w4 ⟨rfl, hb6⟩
  rw [HR.out]
  have hbk4 := (HBK3.out.alloc (.cells #[.slice A L.length c] 25)).below' hb6 (by simp; omega)
  have hbn4 : Blk w4 w3.heap.size 25 #[.slice A L.length c] := (Blk.new w3 25 #[.slice A L.length c]).below' hb6 (by simp)
  have hc := (hbk4.cell 0).trans (show _ = some (Value.slice none 0 0) from rfl)
  have hf := hbk4.frozen 0
  have hc7 := (hbn4.cell 0).trans (show _ = some (Value.slice A L.length c) from rfl)
  have hs4 := hb6.size
  simp at hs4
  have HB7 := Lib.hid (HB5.out.trans (((Below.refl w3.heap.size w3).alloc (Nat.le_refl _) (.cells #[.slice A L.length c] 25)).trans (hb6.mono (by simp))|>.mono (by omega)))
  have HTM4 := Lib.hid ((HTM.out.keep (w' := w4) (fun b hb => ((hb6.block b (by have := hb.2; simp; omega)).trans (Below.heap_alloc w3 _ b hb.2)))))
  clear hb6 hbk4 hbn4
  cases rb
  · have HE2 := Lib.hid (show Lo = [] ∧ n = 14 from HE.out)
    go_wp2_with fail
    refine bodyPost_ret (v := .tuple #[.agg #[.slice none 0 0], .int .i64 0, .int .i64 14]) ?_ rfl ?_
    · simp [results, Tryz.results30, go_sem, hc]
    · exact ⟨_, by rw [HE2.out.2], by rw [HE2.out.1]; exact terms_none _ _, HB7.out.setCell (Nat.le_refl _) _⟩
  · have HE2 := Lib.hid (show Lo = L ∧ n = 0 from HE.out)
    go_wp2_with fail
    refine bodyPost_ret (v := .tuple #[.agg #[.slice A L.length c], .int .i64 0, .int .i64 0]) ?_ rfl ?_
    · simp [results, Tryz.results30, go_sem, hc]
    · have hsz : (w4.setCell ⟨w.heap.size, 0, none⟩ (.slice A L.length c)).heap.size = w4.heap.size := by simp [World.setCell]
      refine ⟨_, by rw [HE2.out.2], ?_, HB7.out.setCell (Nat.le_refl _) _⟩
      rw [HE2.out.1]
      exact (HTM4.out.keep (fun b hb => Below.heap_setCell w4 ⟨w.heap.size, 0, none⟩ _ b (by have := hb.1; show b ≠ w.heap.size; omega))).mono fun b hb => by have := hb.2; rw [hsz]; omega
/-- forms.Parse on any text. -/
theorem f_Parse (s : ByteArray) (w : World) (hs : s.size ≤ 100000000) (hl : LibOk w) : Calls Tryz.prog 30 #[.string s] w (ParseEnd w (parseC (blOf s)).1 (parseC (blOf s)).2.1 (parseC (blOf s)).2.2) := by
  have h2 := blOf_len s
  unfold parseC
  split
  · exact f_Parse_long s w (by omega) hs
  · rcases hp : parseF (blOf s) with T | k
    · have h3 := f_Parse_ok s T _ _ _ _ w (by omega) hl hp rfl rfl ⟨rfl, rfl⟩
      rw [← h2] at h3
      simp only
      split
      · rename_i hr
        rw [hr] at h3; exact h3
      · rename_i hr
        rw [Bool.not_eq_true] at hr
        rw [hr] at h3; exact h3
    · exact f_Parse_bad s k w (by omega) hl hp
end Go.Proofs.YthfmmememdlekaaGreatDoor
