/- Contracts: a text is read, or where it fails. Plain: how many terms the reader's tree has; the own list as a list of terms. -/
import Derived.Test.YthfmmememdlekaaGreatDoorV17
import Derived.Test.YthfmmememdlekaaGreatDoorV08
set_option linter.unusedVariables false
set_option linter.unusedSimpArgs false
namespace Go.Proofs.YthfmmememdlekaaGreatDoor
open Go.RowKit Num

def ParsePost (w : World) (F : Nat) (o : Tree ⊕ Nat) (e : Ending) (w' : World) : Prop := Below w.heap.size w w' ∧ match o with
  | .inr k => ∃ v, e = .returned (.tuple #[v, .int .i64 (k : Int)])
  | .inl T => ∃ v, e = .returned (.tuple #[v, .int .i64 (-1)]) ∧ TreeZ w' (NewS w w') F v T
abbrev parW (w : World) (s : ByteArray) : World := (w.alloc (.cells #[.int .i64 (-1)] 3)).alloc (.cells #[.string s, .int .i64 0] 155)
set_option maxRecDepth 100000 in
set_option maxHeartbeats 4000000 in
theorem f_parse_bad (s : ByteArray) (q : List UInt8) (w : World) (hs : s.size ≤ 100000) (hl : LibOk w) (hp : PF (s.size + 1) .cond (spaceB (blOf s)) = .bad q) :
    Calls Tryz.prog 65 #[.string s] w (ParsePost w (s.size + 1) (.inr (posR s q))) := by
  have hmf : ∀ (fn : Fn) (first cap : Array Value) (w : World), (Instr.makeFunc fn first cap).run Tryz.prog w = .ok (.func fn first cap) w := fun _ _ _ _ => rfl
  have hb1 : Below w.heap.size w (parW w s) := ((Below.refl _ _).alloc (Nat.le_refl _) _).alloc (by simp) _
  have hbk : Blk (parW w s) (w.heap.size + 1) 155 #[.string s, .int .i64 ((0 : Nat) : Int)] := by
    have := Blk.new (w.alloc (.cells #[.int .i64 (-1)] 3)) 155 #[.string s, .int .i64 0]
    simpa using this
  have hrd : Rd (parW w s) (w.heap.size + 1) s (blOf s) := ⟨0, hbk, by omega, rfl⟩
  have hab : Blk (parW w s) w.heap.size 3 #[.int .i64 (-1)] := (Blk.new w 3 #[.int .i64 (-1)]).alloc _
  have h6 : 6 ≤ w.heap.size + 1 := by have := hl.size; omega
  have HRD := Lib.hid hrd
  have HAB := Lib.hid hab
  have HB1 := Lib.hid hb1
  have HL1 := Lib.hid (hl.later hb1)
  have HP := Lib.hid hp
  have hsl := space_len (blOf s)
  have hbl := blOf_len s
  have hbel : ∀ (W : World), (parW w s).grownBy W (some (w.heap.size + 1)) → Below w.heap.size w W := fun W hg => HB1.out.trans ⟨hg.os, hg.tape, hg.output, hg.size, fun i hi => hg.block i (by simp; omega) (by intro e; injection e with e; omega)⟩
  have HBEL := Lib.hid hbel
  clear hbel
  clear hb1 hbk hrd hab hl hp
  go_enter_defers Tryz.func65, Tryz.ntmps65
  go_wp2_with fail
  refine (f_space (w.heap.size + 1) s (blOf s) _ HRD.out hs).mono ?_
  rintro e w2 ⟨rfl, hrd2, hg2⟩
  have HRD2 := Lib.hid hrd2
  have HL2 := Lib.hid (HL1.out.rb hg2 h6)
  have hab2 := Blk.grown' HAB.out hg2 (by intro e; injection e with e; omega)
  have HAB2 := Lib.hid hab2
  have HG2 := Lib.hid hg2
  have hs2 : w.heap.size + 2 ≤ w2.heap.size := by have := hg2.size; simp at this; omega
  clear hrd2 hg2 hab2
  go_wp2_with fail
  refine (f_condition (s.size + 1) (w.heap.size + 1) s _ _ HRD2.out (by omega) h6 hs HL2.out).mono ?_
  rw [HP.out]
  rintro e w3 ⟨hg3, rfl⟩
  have hab3 := Blk.grown' HAB2.out hg3 (by intro e; injection e with e; omega)
  have c3 := (hab3.cell 0).trans (show _ = some (Value.int .i64 (-1)) from rfl)
  have f3 := hab3.frozen 0
  have HB3 := Lib.hid (HBEL.out w3 (HG2.out.trans hg3))
  clear hg3
  go_wp2_with fail
  refine leaves_cons (f := 100) (args := #[.pointer (some ⟨w.heap.size, 0, none⟩)]) (by simp) (by simp [go_sem]) ?_
  refine (catch_panicking ⟨w.heap.size, 0, none⟩ (-1) _ _ c3 f3).mono ?_
  rintro e u' w'' ⟨rfl, rfl, rfl⟩
  have hk3 : (w3.setCell ⟨w.heap.size, 0, none⟩ (.int .i64 (posR s q : Int))).cell? ⟨w.heap.size, 0, none⟩ = some (.int .i64 (posR s q : Int)) := World.cell?_setCell_same _ _ _ c3
  have hfin : Below w.heap.size w (w3.setCell ⟨w.heap.size, 0, none⟩ (.int .i64 (posR s q : Int))) := HB3.out.setCell (Nat.le_refl _) _
  simp [Leaves, settle, results, Tryz.results65, go_sem, hk3]
  exact ⟨hfin, _, rfl⟩
set_option maxRecDepth 100000 in
set_option maxHeartbeats 4000000 in
theorem f_parse_rest (s : ByteArray) (q : List UInt8) (T : Tree) (w : World) (hs : s.size ≤ 100000) (hl : LibOk w) (hp : PF (s.size + 1) .cond (spaceB (blOf s)) = .ok [T] q) (hq : q ≠ []) :
    Calls Tryz.prog 65 #[.string s] w (ParsePost w (s.size + 1) (.inr (posR s q))) := by
  have hql : posR s q < s.size := by
    have h1 := (PF_len _ _ _ _ _ hp).1
    have h2 := space_len (blOf s)
    have h3 := blOf_len s
    have h4 := List.length_pos_iff.2 hq
    unfold posR; omega
  clear hq
  have hmf : ∀ (fn : Fn) (first cap : Array Value) (w : World), (Instr.makeFunc fn first cap).run Tryz.prog w = .ok (.func fn first cap) w := fun _ _ _ _ => rfl
  have hb1 : Below w.heap.size w (parW w s) := ((Below.refl _ _).alloc (Nat.le_refl _) _).alloc (by simp) _
  have hbk : Blk (parW w s) (w.heap.size + 1) 155 #[.string s, .int .i64 ((0 : Nat) : Int)] := by
    have := Blk.new (w.alloc (.cells #[.int .i64 (-1)] 3)) 155 #[.string s, .int .i64 0]
    simpa using this
  have hrd : Rd (parW w s) (w.heap.size + 1) s (blOf s) := ⟨0, hbk, by omega, rfl⟩
  have hab : Blk (parW w s) w.heap.size 3 #[.int .i64 (-1)] := (Blk.new w 3 #[.int .i64 (-1)]).alloc _
  have h6 : 6 ≤ w.heap.size + 1 := by have := hl.size; omega
  have HRD := Lib.hid hrd
  have HAB := Lib.hid hab
  have HB1 := Lib.hid hb1
  have HL1 := Lib.hid (hl.later hb1)
  have HP := Lib.hid hp
  have hsl := space_len (blOf s)
  have hbl := blOf_len s
  have hbel : ∀ (W : World), (parW w s).grownBy W (some (w.heap.size + 1)) → Below w.heap.size w W := fun W hg => HB1.out.trans ⟨hg.os, hg.tape, hg.output, hg.size, fun i hi => hg.block i (by simp; omega) (by intro e; injection e with e; omega)⟩
  have HBEL := Lib.hid hbel
  clear hbel
  clear hb1 hbk hrd hab hl hp
  go_enter_defers Tryz.func65, Tryz.ntmps65
  go_wp2_with fail
  refine (f_space (w.heap.size + 1) s (blOf s) _ HRD.out hs).mono ?_
  rintro e w2 ⟨rfl, hrd2, hg2⟩
  have HRD2 := Lib.hid hrd2
  have HL2 := Lib.hid (HL1.out.rb hg2 h6)
  have hab2 := Blk.grown' HAB.out hg2 (by intro e; injection e with e; omega)
  have HAB2 := Lib.hid hab2
  have HG2 := Lib.hid hg2
  have hs2 : w.heap.size + 2 ≤ w2.heap.size := by have := hg2.size; simp at this; omega
  clear hrd2 hg2 hab2
  go_wp2_with fail
  refine (f_condition (s.size + 1) (w.heap.size + 1) s _ _ HRD2.out (by omega) h6 hs HL2.out).mono ?_
  rw [HP.out]
  rintro e w3 ⟨hg3, v, rfl, hrd3, ht3⟩
  have hab3 := Blk.grown' HAB2.out hg3 (by intro e; injection e with e; omega)
  have c3 := (hab3.cell 0).trans (show _ = some (Value.int .i64 (-1)) from rfl)
  have f3 := hab3.frozen 0
  have HB3 := Lib.hid (HBEL.out w3 (HG2.out.trans hg3))
  have HBK3 := Lib.hid hrd3.pos.1
  have r3 := (hrd3.pos.1.cell 1).trans (show _ = some (Value.int .i64 (posR s q : Int)) from rfl)
  have HT3 := Lib.hid ht3
  obtain ⟨vb, rfl, hvb⟩ := ht3.ptr
  clear hg3 hrd3 ht3
  go_wp2_with fail
  refine (f_fail (w.heap.size + 1) (posR s q) s _ HBK3.out).mono ?_
  rintro e w4 ⟨rfl, rfl⟩
  go_wp2_with fail
  refine leaves_cons (f := 100) (args := #[.pointer (some ⟨w.heap.size, 0, none⟩)]) (by simp) (by simp [go_sem]) ?_
  refine (catch_panicking ⟨w.heap.size, 0, none⟩ (-1) _ _ c3 f3).mono ?_
  rintro e u' w'' ⟨rfl, rfl, rfl⟩
  have hk3 : (w3.setCell ⟨w.heap.size, 0, none⟩ (.int .i64 (posR s q : Int))).cell? ⟨w.heap.size, 0, none⟩ = some (.int .i64 (posR s q : Int)) := World.cell?_setCell_same _ _ _ c3
  have hfin : Below w.heap.size w (w3.setCell ⟨w.heap.size, 0, none⟩ (.int .i64 (posR s q : Int))) := HB3.out.setCell (Nat.le_refl _) _
  simp [Leaves, settle, results, Tryz.results65, go_sem, hk3]
  exact ⟨hfin, _, rfl⟩
set_option maxRecDepth 100000 in
set_option maxHeartbeats 4000000 in
theorem f_parse_ok (s : ByteArray) (T : Tree) (w : World) (hs : s.size ≤ 100000) (hl : LibOk w) (hp : PF (s.size + 1) .cond (spaceB (blOf s)) = .ok [T] []) :
    Calls Tryz.prog 65 #[.string s] w (ParsePost w (s.size + 1) (.inl T)) := by
  have hmf : ∀ (fn : Fn) (first cap : Array Value) (w : World), (Instr.makeFunc fn first cap).run Tryz.prog w = .ok (.func fn first cap) w := fun _ _ _ _ => rfl
  have hb1 : Below w.heap.size w (parW w s) := ((Below.refl _ _).alloc (Nat.le_refl _) _).alloc (by simp) _
  have hbk : Blk (parW w s) (w.heap.size + 1) 155 #[.string s, .int .i64 ((0 : Nat) : Int)] := by
    have := Blk.new (w.alloc (.cells #[.int .i64 (-1)] 3)) 155 #[.string s, .int .i64 0]
    simpa using this
  have hrd : Rd (parW w s) (w.heap.size + 1) s (blOf s) := ⟨0, hbk, by omega, rfl⟩
  have hab : Blk (parW w s) w.heap.size 3 #[.int .i64 (-1)] := (Blk.new w 3 #[.int .i64 (-1)]).alloc _
  have h6 : 6 ≤ w.heap.size + 1 := by have := hl.size; omega
  have HRD := Lib.hid hrd
  have HAB := Lib.hid hab
  have HB1 := Lib.hid hb1
  have HL1 := Lib.hid (hl.later hb1)
  have HP := Lib.hid hp
  have hsl := space_len (blOf s)
  have hbl := blOf_len s
  have hbel : ∀ (W : World), (parW w s).grownBy W (some (w.heap.size + 1)) → Below w.heap.size w W := fun W hg => HB1.out.trans ⟨hg.os, hg.tape, hg.output, hg.size, fun i hi => hg.block i (by simp; omega) (by intro e; injection e with e; omega)⟩
  have HBEL := Lib.hid hbel
  clear hbel
  clear hb1 hbk hrd hab hl hp
  go_enter_defers Tryz.func65, Tryz.ntmps65
  go_wp2_with fail
  refine (f_space (w.heap.size + 1) s (blOf s) _ HRD.out hs).mono ?_
  rintro e w2 ⟨rfl, hrd2, hg2⟩
  have HRD2 := Lib.hid hrd2
  have HL2 := Lib.hid (HL1.out.rb hg2 h6)
  have hab2 := Blk.grown' HAB.out hg2 (by intro e; injection e with e; omega)
  have HAB2 := Lib.hid hab2
  have HG2 := Lib.hid hg2
  have hs2 : w.heap.size + 2 ≤ w2.heap.size := by have := hg2.size; simp at this; omega
  clear hrd2 hg2 hab2
  go_wp2_with fail
  refine (f_condition (s.size + 1) (w.heap.size + 1) s _ _ HRD2.out (by omega) h6 hs HL2.out).mono ?_
  rw [HP.out]
  rintro e w3 ⟨hg3, v, rfl, hrd3, ht3⟩
  have hab3 := Blk.grown' HAB2.out hg3 (by intro e; injection e with e; omega)
  have c3 := (hab3.cell 0).trans (show _ = some (Value.int .i64 (-1)) from rfl)
  have f3 := hab3.frozen 0
  have HB3 := Lib.hid (HBEL.out w3 (HG2.out.trans hg3))
  have r3 := (hrd3.pos.1.cell 1).trans (show _ = some (Value.int .i64 (s.size : Int)) from rfl)
  have HT3 := Lib.hid ht3
  obtain ⟨vb, rfl, hvb⟩ := ht3.ptr
  clear hg3 hrd3 ht3
  have hns : ¬ (s.size : Int) < (s.size : Int) := by omega
  have c3d : w3.drew.cell? ⟨w.heap.size, 0, none⟩ = some (.int .i64 (-1)) := c3
  have f3d : w3.drew.frozen? ⟨w.heap.size, 0, none⟩ = false := f3
  go_wp2_with fail
  go_region
  all_goals
    go_wp2_with fail
    refine leaves_cons (f := 100) (args := #[.pointer (some ⟨w.heap.size, 0, none⟩)]) (by simp) (by simp [go_sem]) ?_
    refine (catch_idle ⟨w.heap.size, 0, none⟩ _).mono ?_
    rintro e u' w'' ⟨rfl, rfl, rfl⟩
    have hk3 : ((w3.setCell ⟨w.heap.size, 0, none⟩ (.int .i64 (-1))).drew).cell? ⟨w.heap.size, 0, none⟩ = some (.int .i64 (-1)) := World.cell?_setCell_same _ _ _ c3
    have hfin : Below w.heap.size w ((w3.setCell ⟨w.heap.size, 0, none⟩ (.int .i64 (-1))).drew) := (HB3.out.setCell (Nat.le_refl _) _).drew
    have htr : TreeZ ((w3.setCell ⟨w.heap.size, 0, none⟩ (.int .i64 (-1))).drew) (NewS w ((w3.setCell ⟨w.heap.size, 0, none⟩ (.int .i64 (-1))).drew)) (s.size + 1) (.pointer (some ⟨vb, 0, none⟩)) T := by
      refine (HT3.out.keep (w' := (w3.setCell ⟨w.heap.size, 0, none⟩ (.int .i64 (-1))).drew) (fun b hb => Below.heap_setCell w3 ⟨w.heap.size, 0, none⟩ _ b ?_)).mono fun b hb => ⟨?_, ?_⟩
      · have := hb.1; show b ≠ w.heap.size; omega
      · have := hb.1; omega
      · have := hb.2; show b < (w3.setCell ⟨w.heap.size, 0, none⟩ (.int .i64 (-1))).heap.size; simpa [World.setCell] using this
    simp [Leaves, settle, results, Tryz.results65, go_sem, c3]
    exact ⟨hfin, _, rfl, htr⟩
theorem f_parse (s : ByteArray) (w : World) (hs : s.size ≤ 100000) (hl : LibOk w) :
    Calls Tryz.prog 65 #[.string s] w (ParsePost w (s.size + 1) (parseF (blOf s))) := by
  have hbl := blOf_len s
  rcases hp : PF (s.size + 1) .cond (spaceB (blOf s)) with ⟨xs, q⟩ | q
  · obtain ⟨T, rfl⟩ := (PF_len _ _ _ _ _ hp).2 rfl
    cases q with
    | nil =>
      have e : parseF (blOf s) = .inl T := by unfold parseF; rw [hbl, hp]
      rw [e]; exact f_parse_ok s T w hs hl hp
    | cons c q =>
      have e : parseF (blOf s) = .inr (posR s (c :: q)) := by unfold parseF; rw [hbl, hp]; rfl
      rw [e]; exact f_parse_rest s (c :: q) T w hs hl hp (by simp)
  · have e : parseF (blOf s) = .inr (posR s q) := by unfold parseF; rw [hbl, hp]; rfl
    rw [e]; exact f_parse_bad s q w hs hl hp
end Go.Proofs.YthfmmememdlekaaGreatDoor
namespace Go.Proofs.YthfmmememdlekaaGreatDoor
open Go.RowKit Num

theorem flatA_len_of {g : Nat → Tree → List Trm} (hg : ∀ a b T, (g a T).length = (g b T).length) : ∀ (xs : List Tree) (a b : Nat), (flatA g a xs).2.length = (flatA g b xs).2.length := by
  intro xs
  induction xs with
  | nil => intro a b; rfl
  | cons x xs ih => intro a b; simp only [flatA, List.length_append]; rw [hg a b x, ih _ (b + (g b x).length)]
theorem flatT_len_at : ∀ (d a b : Nat) (T : Tree), (flatT d a T).length = (flatT d b T).length := by
  intro d
  induction d with
  | zero => intro a b T; rfl
  | succ d ih => intro a b T; obtain ⟨t, xs⟩ := T; simp only [flatT, List.length_cons]; rw [flatA_len_of ih xs (a + 1) (b + 1)]
def nA (d : Nat) (xs : List Tree) : Nat := (flatA (flatT d) 0 xs).2.length
theorem nA_at (d a : Nat) (xs : List Tree) : (flatA (flatT d) a xs).2.length = nA d xs := flatA_len_of (flatT_len_at d) xs a 0
theorem nA_cons (d : Nat) (x : Tree) (xs : List Tree) : nA d (x :: xs) = (flatT d 0 x).length + nA d xs := by
  show (flatT d 0 x ++ (flatA (flatT d) (0 + (flatT d 0 x).length) xs).2).length = _
  rw [List.length_append, nA_at]
theorem nA_app (d : Nat) (xs ys : List Tree) : nA d (xs ++ ys) = nA d xs + nA d ys := by
  induction xs with
  | nil => show nA d ys = 0 + nA d ys; omega
  | cons x xs ih => rw [List.cons_append, nA_cons, nA_cons, ih]; omega
theorem nA_node (d : Nat) (t : Trm) (xs : List Tree) : nA (d + 1) [.node t xs] = 1 + nA d xs := by
  rw [nA_cons]; simp only [flatT, List.length_cons]; rw [nA_at]; show _ + 1 + 0 = _; omega
theorem nA_leaf (d : Nat) (t : Trm) : nA d [.node t []] ≤ 1 := by
  cases d with
  | zero => show ([] : List Trm).length ≤ 1; simp
  | succ d => rw [nA_node]; show 1 + 0 ≤ 1; omega
def Md.acc : Md → List Tree
  | .more a => a
  | _ => []
theorem PF_terms : ∀ (f : Nat) (m : Md) (r : List UInt8) (xs : List Tree) (q : List UInt8), PF f m r = .ok xs q → ∀ d, nA d xs + q.length ≤ r.length + nA d m.acc := by
  intro f
  induction f with
  | zero => intro m r xs q h; simp [PF] at h
  | succ f ih =>
    intro m r xs q h d
    cases m with
    | cond =>
      simp only [PF] at h
      have h0 : nA d (Md.acc .cond) = 0 := rfl
      split at h
      · cases h
      · rename_i w r1 ht
        have l1 := take_len ht
        split at h
        · split at h
          · cases h
          · rename_i ys q' ha
            injection h with h1 h2; subst h1; subst h2
            cases d with
            | zero =>
              have := (PF_len _ _ _ _ _ ha).1
              have h3 : nA 0 [Tree.node (mkT (kindB w) 0 0 E0 E0) ys] = 0 := rfl
              omega
            | succ d =>
              have := ih _ _ _ _ ha d
              have h3 : nA d (Md.acc .args) = 0 := rfl
              rw [nA_node]
              omega
        · split at h
          · split at h
            · cases h
            · rename_i n q' hn
              injection h with h1 h2; subst h1; subst h2
              have := num_len hn
              have := nA_leaf d (mkT (kindB w) n 0 E0 E0)
              omega
          · split at h
            · split at h
              · cases h
              · rename_i y r2 hy
                split at h
                · cases h
                · rename_i o r3 ho
                  split at h
                  · cases h
                  · rename_i n q' hn
                    injection h with h1 h2; subst h1; subst h2
                    have a1 := num_len hy
                    have a2 := take_len ho
                    have a3 := num_len hn
                    have := nA_leaf d (mkT 5 n y E0 E0)
                    omega
            · split at h
              · split at h
                · cases h
                · rename_i fd r2 h1'
                  split at h
                  · cases h
                  · rename_i tx r3 h2'
                    split at h
                    · cases h
                    · rename_i o r4 h3'
                      split at h
                      · cases h
                      · rename_i n q' hn
                        injection h with h1 h2; subst h1; subst h2
                        have a1 := take_len h1'
                        have a2 := take_len h2'
                        have a3 := take_len h3'
                        have a4 := num_len hn
                        have := nA_leaf d (mkT 7 n 0 (bsOf fd) (bsOf ((tx.drop 1).take (tx.length - 2))))
                        omega
              · injection h with h1 h2; subst h1; subst h2
                have := nA_leaf d (mkT (kindB w) 0 0 E0 E0)
                omega
    | args =>
      simp only [PF] at h
      have h0 : nA d (Md.acc .args) = 0 := rfl
      have hc : nA d (Md.acc .cond) = 0 := rfl
      split at h
      · cases h
      · rename_i o r1 h1
        split at h
        · cases h
        · rename_i xs' r2 h2
          split at h
          · cases h
          · rename_i o2 r3 h3
            split at h
            · cases h
            · rename_i ys r4 h4
              have a1 := take_len h1
              have a2 := ih _ _ _ _ h2 d
              have a3 := take_len h3
              have a4 := ih _ _ _ _ h4 d
              have a5 := ih _ _ _ _ h d
              have a6 : nA d (Md.acc (.more (xs' ++ ys))) = nA d xs' + nA d ys := nA_app d xs' ys
              omega
    | more acc =>
      simp only [PF] at h
      have h0 : nA d (Md.acc (.more acc)) = nA d acc := rfl
      have hc : nA d (Md.acc .cond) = 0 := rfl
      split at h
      · split at h
        · cases h
        · rename_i o r1 h1
          split at h
          · cases h
          · rename_i xs' r2 h2
            have a1 := take_len h1
            have a2 := ih _ _ _ _ h2 d
            have a5 := ih _ _ _ _ h d
            have a6 : nA d (Md.acc (.more (acc ++ xs'))) = nA d acc + nA d xs' := nA_app d acc xs'
            omega
      · split at h
        · cases h
        · rename_i o r1 h1
          injection h with h1' h2'; subst h1'; subst h2'
          have := take_len h1
          omega
theorem parseF_terms {s : List UInt8} {T : Tree} (h : parseF s = .inl T) (d a : Nat) : (flatT d a T).length ≤ s.length := by
  unfold parseF at h
  split at h
  · cases h
  · rename_i T' ys hp
    injection h with h5
    subst h5
    have h1 := PF_terms _ _ _ _ _ hp d
    obtain ⟨T2, e2⟩ := (PF_len _ _ _ _ _ hp).2 rfl
    injection e2 with e3 e4
    subst e4
    have h2 : nA d (Md.acc .cond) = 0 := rfl
    have h3 := space_len s
    have h4 : nA d [T'] = (flatT d 0 T').length := by rw [nA_cons]; rfl
    have h6 : ([] : List UInt8).length = 0 := rfl
    rw [flatT_len_at d a 0]; omega
  · cases h
theorem own_ints {w : World} {B : Nat} {v : Value} {xs : List Int} (h : w.ownsRow B 3 1 v xs.length (xs.map (Value.int .i64))) : IntsAt w (fun b => B ≤ b ∧ b < w.heap.size) v xs := by
  rcases Nat.eq_zero_or_pos xs.length with h0 | h0
  · rcases h.2 with ⟨rfl, _⟩ | ⟨g', cap, cur, rfl, _, _, h2, _⟩
    · exact ⟨none, 0, 0, rfl, h0.symm, by omega, fun h1 => absurd h1 (by omega)⟩
    · exact ⟨_, xs.length, cap, rfl, rfl, h2, fun h1 => absurd h1 (by omega)⟩
  · obtain ⟨g, c, rfl, hg, hlt⟩ := h.form h0
    refine ⟨some ⟨g, 0, none⟩, xs.length, c, rfl, rfl, ?_, fun _ => ⟨g, 0, rfl, ⟨hg, hlt⟩, fun k hk => ?_⟩⟩
    · rcases h.2 with ⟨h1, _⟩ | ⟨g', cap, cur, h1, _, _, h2, _⟩
      · cases h1
      · injection h1 with _ _ h1; omega
    · rw [Nat.zero_add]
      exact own_cell h k _ (by rw [List.getElem?_map, List.getElem?_eq_getElem hk, List.getD_eq_getElem?_getD, List.getElem?_eq_getElem hk]; rfl)
theorem OwnTs.terms {w : World} {B : Nat} {v : Value} {L : List Trm} {us : Nat → Value} (h : OwnTs w B v L us) : TermsAt w (fun b => B ≤ b ∧ b < w.heap.size) v L := by
  rcases Nat.eq_zero_or_pos L.length with h0 | h0
  · rcases h.row.2 with ⟨rfl, _⟩ | ⟨g', cap, cur, rfl, _, _, h2, _⟩
    · exact ⟨none, 0, 0, rfl, h0.symm, by omega, fun h1 => absurd h1 (by omega)⟩
    · exact ⟨_, L.length, cap, rfl, rfl, h2, fun h1 => absurd h1 (by omega)⟩
  · obtain ⟨g, c, rfl, hg, hlt⟩ := h.row.form h0
    refine ⟨some ⟨g, 0, none⟩, L.length, c, rfl, rfl, ?_, fun _ => ⟨g, 0, rfl, ⟨hg, hlt⟩, fun k hk => ?_⟩⟩
    · rcases h.row.2 with ⟨h1, _⟩ | ⟨g', cap, cur, h1, _, _, h2, _⟩
      · cases h1
      · injection h1 with _ _ h1; omega
    · have hc : ∀ i u, i < 6 → (tmCell (trmAt L k) (us k)).getD i undef = u → w.cell? ⟨g, 0 + k * 6 + i, none⟩ = some u := by
        intro i u hi hu
        rw [Nat.zero_add]
        exact own_cell h.row (k * 6 + i) u (by rw [tmsC_at L us k i hk hi, hu])
      refine ⟨hc 0 _ (by decide) rfl, hc 1 _ (by decide) rfl, hc 2 _ (by decide) rfl, hc 3 _ (by decide) rfl, hc 4 _ (by decide) rfl, us k, hc 5 _ (by decide) rfl, ?_⟩
      exact own_ints (h.args k hk)
end Go.Proofs.YthfmmememdlekaaGreatDoor
