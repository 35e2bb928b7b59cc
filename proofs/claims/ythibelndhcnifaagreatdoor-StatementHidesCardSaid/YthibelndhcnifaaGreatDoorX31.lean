/- Contracts: a text is read, or where it fails. Plain: how many terms the reader's tree has; the own list as a list of terms. Plain: the terms of the reader's tree are small. -/
import Derived.Test.YthibelndhcnifaaGreatDoorX30
import Derived.Test.YthibelndhcnifaaGreatDoorX15
import Derived.Test.YthibelndhcnifaaGreatDoorX25
set_option linter.unusedVariables false
set_option linter.unusedSimpArgs false
namespace Go.Proofs.YthibelndhcnifaaGreatDoor
open Go.RowKit Num

def ParsePost (w : World) (F : Nat) (o : Tree ⊕ Nat) (e : Ending) (w' : World) : Prop := Below w.heap.size w w' ∧ match o with
  | .inr k => ∃ v, e = .returned (.tuple #[v, .int .i64 (k : Int)])
  | .inl T => ∃ v, e = .returned (.tuple #[v, .int .i64 (-1)]) ∧ TreeZ w' (NewS w w') F v T
abbrev parW (w : World) (s : ByteArray) : World := (w.alloc (.cells #[.int .i64 (-1)] 3)).alloc (.cells #[.string s, .int .i64 0] 126)
set_option maxRecDepth 100000 in
set_option maxHeartbeats 4000000 in
theorem f_parse_bad (s : ByteArray) (q : List UInt8) (w : World) (hs : s.size ≤ 100000) (hl : ParOk w) (hp : PF (s.size + 1) .cond (spaceB (blOf s)) = .bad q) :
    Calls Tryz.prog 50 #[.string s] w (ParsePost w (s.size + 1) (.inr (posR s q))) := by
  have hmf : ∀ (fn : Fn) (first cap : Array Value) (w : World), (Instr.makeFunc fn first cap).run Tryz.prog w = .ok (.func fn first cap) w := fun _ _ _ _ => rfl
  have hb1 : Below w.heap.size w (parW w s) := ((Below.refl _ _).alloc (Nat.le_refl _) _).alloc (by simp) _
  have hbk : Blk (parW w s) (w.heap.size + 1) 126 #[.string s, .int .i64 ((0 : Nat) : Int)] := by
    have := Blk.new (w.alloc (.cells #[.int .i64 (-1)] 3)) 126 #[.string s, .int .i64 0]
    simpa using this
  have hrd : Rd (parW w s) (w.heap.size + 1) s (blOf s) := ⟨0, hbk, by omega, rfl⟩
  have hab : Blk (parW w s) w.heap.size 3 #[.int .i64 (-1)] := (Blk.new w 3 #[.int .i64 (-1)]).alloc _
  have h6 : 5 < w.heap.size + 1 := by have := hl.size; omega
  have HRD := Lib.hid hrd
  have HAB := Lib.hid hab
  have HB1 := Lib.hid hb1
  have HL1 := Lib.hid (hl.later hb1)
  have HP := Lib.hid hp
  have hsl := space_len (blOf s)
  have hbl := blOf_len s
  have hbel : ∀ (W : World), (parW w s).grownBy W (some (w.heap.size + 1)) → Below w.heap.size w W := fun W hg => HB1.out.trans ⟨hg.os, hg.tape, hg.output, hg.size, fun i hi => hg.block i (by simp; omega) (by intro e; injection e with e; omega)⟩
  have HBEL := Lib.hid hbel
  clear hbel
  clear hb1 hbk hrd hab hl hp
  go_enter_defers Tryz.func50, Tryz.ntmps50
  go_wp2_with fail
  refine (f_space (w.heap.size + 1) s (blOf s) _ HRD.out hs).mono ?_
  rintro e w2 ⟨rfl, hrd2, hg2⟩
  have HRD2 := Lib.hid hrd2
  have HL2 := Lib.hid (HL1.out.rb hg2 h6)
  have hab2 := Blk.grown' HAB.out hg2 (by intro e; injection e with e; omega)
  have HAB2 := Lib.hid hab2
  have HG2 := Lib.hid hg2
  have hs2 : w.heap.size + 2 ≤ w2.heap.size := by have := hg2.size; simp at this; omega
  clear hrd2 hg2 hab2
  go_wp2_with fail
  refine (f_condition (s.size + 1) (w.heap.size + 1) s _ _ HRD2.out (by omega) h6 hs HL2.out).mono ?_
  rw [HP.out]
  rintro e w3 ⟨hg3, rfl⟩
  have hab3 := Blk.grown' HAB2.out hg3 (by intro e; injection e with e; omega)
  have c3 := (hab3.cell 0).trans (show _ = some (Value.int .i64 (-1)) from rfl)
  have f3 := hab3.frozen 0
  have HB3 := Lib.hid (HBEL.out w3 (HG2.out.trans hg3))
  clear hg3
  go_wp2_with fail
  refine leaves_cons (f := 67) (args := #[.pointer (some ⟨w.heap.size, 0, none⟩)]) (by simp) (by simp [go_sem]) ?_
  refine (catch_panicking ⟨w.heap.size, 0, none⟩ (-1) _ _ c3 f3).mono ?_
  rintro e u' w'' ⟨rfl, rfl, rfl⟩
  have hk3 : (w3.setCell ⟨w.heap.size, 0, none⟩ (.int .i64 (posR s q : Int))).cell? ⟨w.heap.size, 0, none⟩ = some (.int .i64 (posR s q : Int)) := World.cell?_setCell_same _ _ _ c3
  have hfin : Below w.heap.size w (w3.setCell ⟨w.heap.size, 0, none⟩ (.int .i64 (posR s q : Int))) := HB3.out.setCell (Nat.le_refl _) _
  simp [Leaves, settle, results, Tryz.results50, go_sem, hk3]
  exact ⟨hfin, _, rfl⟩
set_option maxRecDepth 100000 in
set_option maxHeartbeats 4000000 in
theorem f_parse_rest (s : ByteArray) (q : List UInt8) (T : Tree) (w : World) (hs : s.size ≤ 100000) (hl : ParOk w) (hp : PF (s.size + 1) .cond (spaceB (blOf s)) = .ok [T] q) (hq : q ≠ []) :
    Calls Tryz.prog 50 #[.string s] w (ParsePost w (s.size + 1) (.inr (posR s q))) := by
  have hql : posR s q < s.size := by
    have h1 := (PF_len _ _ _ _ _ hp).1
    have h2 := space_len (blOf s)
    have h3 := blOf_len s
    have h4 := List.length_pos_iff.2 hq
    unfold posR; omega
  clear hq
  have hmf : ∀ (fn : Fn) (first cap : Array Value) (w : World), (Instr.makeFunc fn first cap).run Tryz.prog w = .ok (.func fn first cap) w := fun _ _ _ _ => rfl
  have hb1 : Below w.heap.size w (parW w s) := ((Below.refl _ _).alloc (Nat.le_refl _) _).alloc (by simp) _
  have hbk : Blk (parW w s) (w.heap.size + 1) 126 #[.string s, .int .i64 ((0 : Nat) : Int)] := by
    have := Blk.new (w.alloc (.cells #[.int .i64 (-1)] 3)) 126 #[.string s, .int .i64 0]
    simpa using this
  have hrd : Rd (parW w s) (w.heap.size + 1) s (blOf s) := ⟨0, hbk, by omega, rfl⟩
  have hab : Blk (parW w s) w.heap.size 3 #[.int .i64 (-1)] := (Blk.new w 3 #[.int .i64 (-1)]).alloc _
  have h6 : 5 < w.heap.size + 1 := by have := hl.size; omega
  have HRD := Lib.hid hrd
  have HAB := Lib.hid hab
  have HB1 := Lib.hid hb1
  have HL1 := Lib.hid (hl.later hb1)
  have HP := Lib.hid hp
  have hsl := space_len (blOf s)
  have hbl := blOf_len s
  have hbel : ∀ (W : World), (parW w s).grownBy W (some (w.heap.size + 1)) → Below w.heap.size w W := fun W hg => HB1.out.trans ⟨hg.os, hg.tape, hg.output, hg.size, fun i hi => hg.block i (by simp; omega) (by intro e; injection e with e; omega)⟩
  have HBEL := Lib.hid hbel
  clear hbel
  clear hb1 hbk hrd hab hl hp
  go_enter_defers Tryz.func50, Tryz.ntmps50
  go_wp2_with fail
  refine (f_space (w.heap.size + 1) s (blOf s) _ HRD.out hs).mono ?_
  rintro e w2 ⟨rfl, hrd2, hg2⟩
  have HRD2 := Lib.hid hrd2
  have HL2 := Lib.hid (HL1.out.rb hg2 h6)
  have hab2 := Blk.grown' HAB.out hg2 (by intro e; injection e with e; omega)
  have HAB2 := Lib.hid hab2
  have HG2 := Lib.hid hg2
  have hs2 : w.heap.size + 2 ≤ w2.heap.size := by have := hg2.size; simp at this; omega
  clear hrd2 hg2 hab2
  go_wp2_with fail
  refine (f_condition (s.size + 1) (w.heap.size + 1) s _ _ HRD2.out (by omega) h6 hs HL2.out).mono ?_
  rw [HP.out]
  rintro e w3 ⟨hg3, v, rfl, hrd3, ht3⟩
  have hab3 := Blk.grown' HAB2.out hg3 (by intro e; injection e with e; omega)
  have c3 := (hab3.cell 0).trans (show _ = some (Value.int .i64 (-1)) from rfl)
  have f3 := hab3.frozen 0
  have HB3 := Lib.hid (HBEL.out w3 (HG2.out.trans hg3))
  have HBK3 := Lib.hid hrd3.pos.1
  have r3 := (hrd3.pos.1.cell 1).trans (show _ = some (Value.int .i64 (posR s q : Int)) from rfl)
  have HT3 := Lib.hid ht3
  obtain ⟨vb, rfl, hvb⟩ := ht3.ptr
  clear hg3 hrd3 ht3
  go_wp2_with fail
  refine (f_fail (w.heap.size + 1) (posR s q) s _ HBK3.out).mono ?_
  rintro e w4 ⟨rfl, rfl⟩
  go_wp2_with fail
  refine leaves_cons (f := 67) (args := #[.pointer (some ⟨w.heap.size, 0, none⟩)]) (by simp) (by simp [go_sem]) ?_
  refine (catch_panicking ⟨w.heap.size, 0, none⟩ (-1) _ _ c3 f3).mono ?_
  rintro e u' w'' ⟨rfl, rfl, rfl⟩
  have hk3 : (w3.setCell ⟨w.heap.size, 0, none⟩ (.int .i64 (posR s q : Int))).cell? ⟨w.heap.size, 0, none⟩ = some (.int .i64 (posR s q : Int)) := World.cell?_setCell_same _ _ _ c3
  have hfin : Below w.heap.size w (w3.setCell ⟨w.heap.size, 0, none⟩ (.int .i64 (posR s q : Int))) := HB3.out.setCell (Nat.le_refl _) _
  simp [Leaves, settle, results, Tryz.results50, go_sem, hk3]
  exact ⟨hfin, _, rfl⟩
set_option maxRecDepth 100000 in
set_option maxHeartbeats 4000000 in
theorem f_parse_ok (s : ByteArray) (T : Tree) (w : World) (hs : s.size ≤ 100000) (hl : ParOk w) (hp : PF (s.size + 1) .cond (spaceB (blOf s)) = .ok [T] []) :
    Calls Tryz.prog 50 #[.string s] w (ParsePost w (s.size + 1) (.inl T)) := by
  have hmf : ∀ (fn : Fn) (first cap : Array Value) (w : World), (Instr.makeFunc fn first cap).run Tryz.prog w = .ok (.func fn first cap) w := fun _ _ _ _ => rfl
  have hb1 : Below w.heap.size w (parW w s) := ((Below.refl _ _).alloc (Nat.le_refl _) _).alloc (by simp) _
  have hbk : Blk (parW w s) (w.heap.size + 1) 126 #[.string s, .int .i64 ((0 : Nat) : Int)] := by
    have := Blk.new (w.alloc (.cells #[.int .i64 (-1)] 3)) 126 #[.string s, .int .i64 0]
    simpa using this
  have hrd : Rd (parW w s) (w.heap.size + 1) s (blOf s) := ⟨0, hbk, by omega, rfl⟩
  have hab : Blk (parW w s) w.heap.size 3 #[.int .i64 (-1)] := (Blk.new w 3 #[.int .i64 (-1)]).alloc _
  have h6 : 5 < w.heap.size + 1 := by have := hl.size; omega
  have HRD := Lib.hid hrd
  have HAB := Lib.hid hab
  have HB1 := Lib.hid hb1
  have HL1 := Lib.hid (hl.later hb1)
  have HP := Lib.hid hp
  have hsl := space_len (blOf s)
  have hbl := blOf_len s
  have hbel : ∀ (W : World), (parW w s).grownBy W (some (w.heap.size + 1)) → Below w.heap.size w W := fun W hg => HB1.out.trans ⟨hg.os, hg.tape, hg.output, hg.size, fun i hi => hg.block i (by simp; omega) (by intro e; injection e with e; omega)⟩
  have HBEL := Lib.hid hbel
  clear hbel
  clear hb1 hbk hrd hab hl hp
  go_enter_defers Tryz.func50, Tryz.ntmps50
  go_wp2_with fail
  refine (f_space (w.heap.size + 1) s (blOf s) _ HRD.out hs).mono ?_
  rintro e w2 ⟨rfl, hrd2, hg2⟩
  have HRD2 := Lib.hid hrd2
  have HL2 := Lib.hid (HL1.out.rb hg2 h6)
  have hab2 := Blk.grown' HAB.out hg2 (by intro e; injection e with e; omega)
  have HAB2 := Lib.hid hab2
  have HG2 := Lib.hid hg2
  have hs2 : w.heap.size + 2 ≤ w2.heap.size := by have := hg2.size; simp at this; omega
  clear hrd2 hg2 hab2
  go_wp2_with fail
  refine (f_condition (s.size + 1) (w.heap.size + 1) s _ _ HRD2.out (by omega) h6 hs HL2.out).mono ?_
  rw [HP.out]
  rintro e w3 ⟨hg3, v, rfl, hrd3, ht3⟩
  have hab3 := Blk.grown' HAB2.out hg3 (by intro e; injection e with e; omega)
  have c3 := (hab3.cell 0).trans (show _ = some (Value.int .i64 (-1)) from rfl)
  have f3 := hab3.frozen 0
  have HB3 := Lib.hid (HBEL.out w3 (HG2.out.trans hg3))
  have r3 := (hrd3.pos.1.cell 1).trans (show _ = some (Value.int .i64 (s.size : Int)) from rfl)
  have HT3 := Lib.hid ht3
  obtain ⟨vb, rfl, hvb⟩ := ht3.ptr
  clear hg3 hrd3 ht3
  have hns : ¬ (s.size : Int) < (s.size : Int) := by omega
  have c3d : w3.drew.cell? ⟨w.heap.size, 0, none⟩ = some (.int .i64 (-1)) := c3
  have f3d : w3.drew.frozen? ⟨w.heap.size, 0, none⟩ = false := f3
  go_wp2_with fail
  go_region
  all_goals
    go_wp2_with fail
    refine leaves_cons (f := 67) (args := #[.pointer (some ⟨w.heap.size, 0, none⟩)]) (by simp) (by simp [go_sem]) ?_
    refine (catch_idle ⟨w.heap.size, 0, none⟩ _).mono ?_
    rintro e u' w'' ⟨rfl, rfl, rfl⟩
    have hk3 : ((w3.setCell ⟨w.heap.size, 0, none⟩ (.int .i64 (-1))).drew).cell? ⟨w.heap.size, 0, none⟩ = some (.int .i64 (-1)) := World.cell?_setCell_same _ _ _ c3
    have hfin : Below w.heap.size w ((w3.setCell ⟨w.heap.size, 0, none⟩ (.int .i64 (-1))).drew) := (HB3.out.setCell (Nat.le_refl _) _).drew
    have htr : TreeZ ((w3.setCell ⟨w.heap.size, 0, none⟩ (.int .i64 (-1))).drew) (NewS w ((w3.setCell ⟨w.heap.size, 0, none⟩ (.int .i64 (-1))).drew)) (s.size + 1) (.pointer (some ⟨vb, 0, none⟩)) T := by
      refine (HT3.out.keep (w' := (w3.setCell ⟨w.heap.size, 0, none⟩ (.int .i64 (-1))).drew) (fun b hb => Below.heap_setCell w3 ⟨w.heap.size, 0, none⟩ _ b ?_)).mono fun b hb => ⟨?_, ?_⟩
      · have := hb.1; show b ≠ w.heap.size; omega
      · have := hb.1; omega
      · have := hb.2; show b < (w3.setCell ⟨w.heap.size, 0, none⟩ (.int .i64 (-1))).heap.size; simpa [World.setCell] using this
    simp [Leaves, settle, results, Tryz.results50, go_sem, c3]
    exact ⟨hfin, _, rfl, htr⟩
theorem f_parse (s : ByteArray) (w : World) (hs : s.size ≤ 100000) (hl : ParOk w) :
    Calls Tryz.prog 50 #[.string s] w (ParsePost w (s.size + 1) (parseF (blOf s))) := by
  have hbl := blOf_len s
  rcases hp : PF (s.size + 1) .cond (spaceB (blOf s)) with ⟨xs, q⟩ | q
  · obtain ⟨T, rfl⟩ := (PF_len _ _ _ _ _ hp).2 rfl
    cases q with
    | nil =>
      have e : parseF (blOf s) = .inl T := by unfold parseF; rw [hbl, hp]
      rw [e]; exact f_parse_ok s T w hs hl hp
    | cons c q =>
      have e : parseF (blOf s) = .inr (posR s (c :: q)) := by unfold parseF; rw [hbl, hp]; rfl
      rw [e]; exact f_parse_rest s (c :: q) T w hs hl hp (by simp)
  · have e : parseF (blOf s) = .inr (posR s q) := by unfold parseF; rw [hbl, hp]; rfl
    rw [e]; exact f_parse_bad s q w hs hl hp
end Go.Proofs.YthibelndhcnifaaGreatDoor
namespace Go.Proofs.YthibelndhcnifaaGreatDoor
open Go.RowKit Num

theorem flatA_len_of {g : Nat → Tree → List Trm} (hg : ∀ a b T, (g a T).length = (g b T).length) : ∀ (xs : List Tree) (a b : Nat), (flatA g a xs).2.length = (flatA g b xs).2.length := by
  intro xs
  induction xs with
  | nil => intro a b; rfl
  | cons x xs ih => intro a b; simp only [flatA, List.length_append]; rw [hg a b x, ih _ (b + (g b x).length)]
theorem flatT_len_at : ∀ (d a b : Nat) (T : Tree), (flatT d a T).length = (flatT d b T).length := by
  intro d
  induction d with
  | zero => intro a b T; rfl
  | succ d ih => intro a b T; obtain ⟨t, xs⟩ := T; simp only [flatT, List.length_cons]; rw [flatA_len_of ih xs (a + 1) (b + 1)]
def nA (d : Nat) (xs : List Tree) : Nat := (flatA (flatT d) 0 xs).2.length
theorem nA_at (d a : Nat) (xs : List Tree) : (flatA (flatT d) a xs).2.length = nA d xs := flatA_len_of (flatT_len_at d) xs a 0
theorem nA_cons (d : Nat) (x : Tree) (xs : List Tree) : nA d (x :: xs) = (flatT d 0 x).length + nA d xs := by
  show (flatT d 0 x ++ (flatA (flatT d) (0 + (flatT d 0 x).length) xs).2).length = _
  rw [List.length_append, nA_at]
theorem nA_app (d : Nat) (xs ys : List Tree) : nA d (xs ++ ys) = nA d xs + nA d ys := by
  induction xs with
  | nil => show nA d ys = 0 + nA d ys; omega
  | cons x xs ih => rw [List.cons_append, nA_cons, nA_cons, ih]; omega
theorem nA_node (d : Nat) (t : Trm) (xs : List Tree) : nA (d + 1) [.node t xs] = 1 + nA d xs := by
  rw [nA_cons]; simp only [flatT, List.length_cons]; rw [nA_at]; show _ + 1 + 0 = _; omega
theorem nA_leaf (d : Nat) (t : Trm) : nA d [.node t []] ≤ 1 := by
  cases d with
  | zero => show ([] : List Trm).length ≤ 1; simp
  | succ d => rw [nA_node]; show 1 + 0 ≤ 1; omega
def Md.acc : Md → List Tree
  | .more a => a
  | _ => []
theorem PF_terms : ∀ (f : Nat) (m : Md) (r : List UInt8) (xs : List Tree) (q : List UInt8), PF f m r = .ok xs q → ∀ d, nA d xs + q.length ≤ r.length + nA d m.acc := by
  intro f
  induction f with
  | zero => intro m r xs q h; simp [PF] at h
  | succ f ih =>
    intro m r xs q h d
    cases m with
    | cond =>
      simp only [PF] at h
      have h0 : nA d (Md.acc .cond) = 0 := rfl
      split at h
      · cases h
      · rename_i w r1 ht
        have l1 := take_len ht
        split at h
        · split at h
          · cases h
          · rename_i ys q' ha
            injection h with h1 h2; subst h1; subst h2
            cases d with
            | zero =>
              have := (PF_len _ _ _ _ _ ha).1
              have h3 : nA 0 [Tree.node (mkT (kindB w) 0 0 E0 E0) ys] = 0 := rfl
              omega
            | succ d =>
              have := ih _ _ _ _ ha d
              have h3 : nA d (Md.acc .args) = 0 := rfl
              rw [nA_node]
              omega
        · split at h
          · split at h
            · cases h
            · rename_i n q' hn
              injection h with h1 h2; subst h1; subst h2
              have := num_len hn
              have := nA_leaf d (mkT (kindB w) n 0 E0 E0)
              omega
          · split at h
            · split at h
              · cases h
              · rename_i y r2 hy
                split at h
                · cases h
                · rename_i o r3 ho
                  split at h
                  · cases h
                  · rename_i n q' hn
                    injection h with h1 h2; subst h1; subst h2
                    have a1 := num_len hy
                    have a2 := take_len ho
                    have a3 := num_len hn
                    have := nA_leaf d (mkT 5 n y E0 E0)
                    omega
            · split at h
              · split at h
                · cases h
                · rename_i fd r2 h1'
                  split at h
                  · cases h
                  · rename_i tx r3 h2'
                    split at h
                    · cases h
                    · rename_i o r4 h3'
                      split at h
                      · cases h
                      · rename_i n q' hn
                        injection h with h1 h2; subst h1; subst h2
                        have a1 := take_len h1'
                        have a2 := take_len h2'
                        have a3 := take_len h3'
                        have a4 := num_len hn
                        have := nA_leaf d (mkT 7 n 0 (bsOf fd) (bsOf ((tx.drop 1).take (tx.length - 2))))
                        omega
              · injection h with h1 h2; subst h1; subst h2
                have := nA_leaf d (mkT (kindB w) 0 0 E0 E0)
                omega
    | args =>
      simp only [PF] at h
      have h0 : nA d (Md.acc .args) = 0 := rfl
      have hc : nA d (Md.acc .cond) = 0 := rfl
      split at h
      · cases h
      · rename_i o r1 h1
        split at h
        · cases h
        · rename_i xs' r2 h2
          split at h
          · cases h
          · rename_i o2 r3 h3
            split at h
            · cases h
            · rename_i ys r4 h4
              have a1 := take_len h1
              have a2 := ih _ _ _ _ h2 d
              have a3 := take_len h3
              have a4 := ih _ _ _ _ h4 d
              have a5 := ih _ _ _ _ h d
              have a6 : nA d (Md.acc (.more (xs' ++ ys))) = nA d xs' + nA d ys := nA_app d xs' ys
              omega
    | more acc =>
      simp only [PF] at h
      have h0 : nA d (Md.acc (.more acc)) = nA d acc := rfl
      have hc : nA d (Md.acc .cond) = 0 := rfl
      split at h
      · split at h
        · cases h
        · rename_i o r1 h1
          split at h
          · cases h
          · rename_i xs' r2 h2
            have a1 := take_len h1
            have a2 := ih _ _ _ _ h2 d
            have a5 := ih _ _ _ _ h d
            have a6 : nA d (Md.acc (.more (acc ++ xs'))) = nA d acc + nA d xs' := nA_app d acc xs'
            omega
      · split at h
        · cases h
        · rename_i o r1 h1
          injection h with h1' h2'; subst h1'; subst h2'
          have := take_len h1
          omega
theorem parseF_terms {s : List UInt8} {T : Tree} (h : parseF s = .inl T) (d a : Nat) : (flatT d a T).length ≤ s.length := by
  unfold parseF at h
  split at h
  · cases h
  · rename_i T' ys hp
    injection h with h5
    subst h5
    have h1 := PF_terms _ _ _ _ _ hp d
    obtain ⟨T2, e2⟩ := (PF_len _ _ _ _ _ hp).2 rfl
    injection e2 with e3 e4
    subst e4
    have h2 : nA d (Md.acc .cond) = 0 := rfl
    have h3 := space_len s
    have h4 : nA d [T'] = (flatT d 0 T').length := by rw [nA_cons]; rfl
    have h6 : ([] : List UInt8).length = 0 := rfl
    rw [flatT_len_at d a 0]; omega
  · cases h
end Go.Proofs.YthibelndhcnifaaGreatDoor
namespace Go.Proofs.YthibelndhcnifaaGreatDoor
open Go.RowKit Num

def Tm (N : Nat) : Nat → Tree → Prop
  | 0, _ => True
  | d + 1, .node t xs => t.field.size ≤ N ∧ t.text.size ≤ N ∧ t.args = [] ∧ xs.length ≤ N ∧ ∀ x ∈ xs, Tm N d x
theorem take_word {p : List UInt8 → Bool} {q w r : List UInt8} (h : takeB p q = some (w, r)) : w.length ≤ q.length := by
  obtain ⟨h1, rfl, _, rfl⟩ := take_sp (a := []) h
  exact word_len q
theorem Tm_leaf {N : Nat} {t : Trm} (h1 : t.field.size ≤ N) (h2 : t.text.size ≤ N) (h3 : t.args = []) (d : Nat) : Tm N d (.node t []) := by
  cases d with
  | zero => trivial
  | succ d => exact ⟨h1, h2, h3, Nat.zero_le _, fun x hx => by cases hx⟩
theorem E0_le (N : Nat) : E0.size ≤ N := Nat.zero_le _
theorem one_leaf {N d : Nat} {t : Trm} (h1 : t.field.size ≤ N) (h2 : t.text.size ≤ N) (h3 : t.args = []) : ∀ x ∈ [Tree.node t []], Tm N d x := by
  intro x hx
  simp at hx; subst hx
  exact Tm_leaf h1 h2 h3 d
theorem PF_tame (N : Nat) : ∀ (f : Nat) (m : Md) (r : List UInt8) (xs : List Tree) (q : List UInt8), PF f m r = .ok xs q → r.length ≤ N → xs.length + q.length ≤ r.length + m.acc.length ∧ ∀ d, (∀ x ∈ m.acc, Tm N d x) → ∀ x ∈ xs, Tm N d x := by
  intro f
  induction f with
  | zero => intro m r xs q h; simp [PF] at h
  | succ f ih =>
    intro m r xs q h hN
    cases m with
    | cond =>
      simp only [PF] at h
      have h0 : (Md.acc .cond).length = 0 := rfl
      split at h
      · cases h
      · rename_i w r1 ht
        have l1 := take_len ht
        split at h
        · split at h
          · cases h
          · rename_i ys q' ha
            injection h with h1 h2; subst h1; subst h2
            have a1 := ih _ _ _ _ ha (by omega)
            have a2 : (Md.acc .args).length = 0 := rfl
            have a3 := (PF_len _ _ _ _ _ ha).1
            refine ⟨by simp; omega, fun d _ x hx => ?_⟩
            simp at hx; subst hx
            cases d with
            | zero => trivial
            | succ d => exact ⟨E0_le N, E0_le N, rfl, by omega, a1.2 d (fun x hx => by cases hx)⟩
        · split at h
          · split at h
            · cases h
            · rename_i n q' hn
              injection h with h1 h2; subst h1; subst h2
              have := num_len hn
              exact ⟨by simp; omega, fun d _ => one_leaf (E0_le N) (E0_le N) rfl⟩
          · split at h
            · split at h
              · cases h
              · rename_i y r2 hy
                split at h
                · cases h
                · rename_i o r3 ho
                  split at h
                  · cases h
                  · rename_i n q' hn
                    injection h with h1 h2; subst h1; subst h2
                    have a1 := num_len hy
                    have a2 := take_len ho
                    have a3 := num_len hn
                    exact ⟨by simp; omega, fun d _ => one_leaf (E0_le N) (E0_le N) rfl⟩
            · split at h
              · split at h
                · cases h
                · rename_i fd r2 h1'
                  split at h
                  · cases h
                  · rename_i tx r3 h2'
                    split at h
                    · cases h
                    · rename_i o r4 h3'
                      split at h
                      · cases h
                      · rename_i n q' hn
                        injection h with h1 h2; subst h1; subst h2
                        have a1 := take_len h1'
                        have a2 := take_len h2'
                        have a3 := take_len h3'
                        have a4 := num_len hn
                        have b1 := take_word h1'
                        have b2 := take_word h2'
                        refine ⟨by simp; omega, fun d _ => one_leaf ?_ ?_ rfl⟩
                        · show (bsOf fd).size ≤ N; rw [bsOf_data']; omega
                        · show (bsOf ((tx.drop 1).take (tx.length - 2))).size ≤ N; rw [bsOf_data', List.length_take]; omega
              · injection h with h1 h2; subst h1; subst h2
                exact ⟨by simp; omega, fun d _ => one_leaf (E0_le N) (E0_le N) rfl⟩
    | args =>
      simp only [PF] at h
      have h0 : (Md.acc .args).length = 0 := rfl
      have hc : (Md.acc .cond).length = 0 := rfl
      split at h
      · cases h
      · rename_i o r1 h1
        split at h
        · cases h
        · rename_i xs' r2 h2
          split at h
          · cases h
          · rename_i o2 r3 h3
            split at h
            · cases h
            · rename_i ys r4 h4
              have a1 := take_len h1
              have l2 := (PF_len _ _ _ _ _ h2).1
              have a2 := ih _ _ _ _ h2 (by omega)
              have a3 := take_len h3
              have l4 := (PF_len _ _ _ _ _ h4).1
              have a4 := ih _ _ _ _ h4 (by omega)
              have a5 := ih _ _ _ _ h (by omega)
              have a6 : (Md.acc (.more (xs' ++ ys))).length = xs'.length + ys.length := List.length_append
              refine ⟨by omega, fun d _ => a5.2 d fun x hx => ?_⟩
              rcases List.mem_append.1 (show x ∈ xs' ++ ys from hx) with hx | hx
              · exact a2.2 d (fun x hx => by cases hx) x hx
              · exact a4.2 d (fun x hx => by cases hx) x hx
    | more acc =>
      simp only [PF] at h
      have h0 : (Md.acc (.more acc)).length = acc.length := rfl
      have hc : (Md.acc .cond).length = 0 := rfl
      split at h
      · split at h
        · cases h
        · rename_i o r1 h1
          split at h
          · cases h
          · rename_i xs' r2 h2
            have a1 := take_len h1
            have l2 := (PF_len _ _ _ _ _ h2).1
            have a2 := ih _ _ _ _ h2 (by omega)
            have a5 := ih _ _ _ _ h (by omega)
            have a6 : (Md.acc (.more (acc ++ xs'))).length = acc.length + xs'.length := List.length_append
            refine ⟨by omega, fun d hd => a5.2 d fun x hx => ?_⟩
            rcases List.mem_append.1 (show x ∈ acc ++ xs' from hx) with hx | hx
            · exact hd x hx
            · exact a2.2 d (fun x hx => by cases hx) x hx
      · split at h
        · cases h
        · rename_i o r1 h1
          injection h with h1' h2'; subst h1'; subst h2'
          have := take_len h1
          exact ⟨by omega, fun d hd => hd⟩
def TrmLe (N : Nat) (t : Trm) : Prop := t.field.size ≤ N ∧ t.text.size ≤ N ∧ t.args.length ≤ N
theorem flatA_one_len (g : Nat → Tree → List Trm) : ∀ (xs : List Tree) (a : Nat), (flatA g a xs).1.length = xs.length := by
  intro xs
  induction xs with
  | nil => intro a; rfl
  | cons x xs ih => intro a; simp [flatA, ih]
theorem flat_tame (N : Nat) : ∀ (d a : Nat) (T : Tree), Tm N d T → ∀ t ∈ flatT d a T, TrmLe N t := by
  intro d
  induction d with
  | zero => intro a T _ t ht; cases ht
  | succ d ih =>
    intro a T hT
    obtain ⟨t, xs⟩ := T
    obtain ⟨h1, h2, h3, h4, h5⟩ := hT
    have hA : ∀ (ys : List Tree) (b : Nat), (∀ x ∈ ys, Tm N d x) → ∀ u ∈ (flatA (flatT d) b ys).2, TrmLe N u := by
      intro ys
      induction ys with
      | nil => intro b _ u hu; cases hu
      | cons y ys ihy =>
        intro b hy u hu
        rcases List.mem_append.1 (show u ∈ flatT d b y ++ _ from hu) with hu | hu
        · exact ih b y (hy y (by simp)) u hu
        · exact ihy _ (fun x hx => hy x (by simp [hx])) u hu
    intro u hu
    simp only [flatT, List.mem_cons] at hu
    rcases hu with rfl | hu
    · refine ⟨h1, h2, ?_⟩
      show (t.args ++ _).length ≤ N
      rw [h3, List.nil_append, flatA_one_len]; exact h4
    · exact hA xs _ h5 u hu
theorem parseF_tame {s : List UInt8} {T : Tree} (h : parseF s = .inl T) (d a : Nat) : ∀ t ∈ flatT d a T, TrmLe s.length t := by
  unfold parseF at h
  split at h
  · cases h
  · rename_i T' ys hp
    injection h with h5
    subst h5
    have h3 := space_len s
    have h1 := (PF_tame s.length _ _ _ _ _ hp h3).2 d (fun x hx => by cases hx) T' (by simp)
    exact flat_tame _ d a T' h1
  · cases h
end Go.Proofs.YthibelndhcnifaaGreatDoor
