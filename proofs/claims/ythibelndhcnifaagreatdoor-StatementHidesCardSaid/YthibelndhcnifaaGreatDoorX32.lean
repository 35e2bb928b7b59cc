/- Contracts: forms.Parse. Plain: the kit's conditions are read back from their texts, also with wide spaces. Plain: a statement's bytes are read back. -/
import Derived.Test.YthibelndhcnifaaGreatDoorX31
import Derived.Test.YthibelndhcnifaaGreatDoorX11
import Derived.Test.YthibelndhcnifaaGreatDoorX25
import Derived.Test.YthibelndhcnifaaGreatDoorX14
import Derived.Test.YthibelndhcnifaaGreatDoorX13
import Derived.Test.YthibelndhcnifaaGreatDoorX06
import Derived.Test.YthibelndhcnifaaGreatDoorX23
set_option linter.unusedVariables false
set_option linter.unusedSimpArgs false
namespace Go.Proofs.YthibelndhcnifaaGreatDoor
open Go.RowKit Num

/-- What the program makes of a text: the terms, the place, the fault's number. -/
def parseC (s : List UInt8) : List Trm × Int × Int := if 4096 < s.length then ([], 0, 3) else match parseF s with
  | .inr k => ([], (k : Int), 12)
  | .inl T => if rightB (flatT (s.length + 1) 0 T) then (flatT (s.length + 1) 0 T, 0, 0) else ([], 0, 14)
def ParseEnd (w : World) (L : List Trm) (p n : Int) (e : Ending) (w' : World) : Prop := ∃ v, e = .returned (.tuple #[.agg #[v], .int .i64 p, .int .i64 n]) ∧ TermsAt w' (fun b => w.heap.size ≤ b ∧ b < w'.heap.size) v L ∧ Below w.heap.size w w'
theorem terms_none (w : World) (S : Nat → Prop) : TermsAt w S (.slice none 0 0) [] := ⟨none, 0, 0, rfl, rfl, Nat.le_refl _, fun h => absurd h (by omega)⟩
set_option maxRecDepth 100000 in
set_option maxHeartbeats 400000 in
theorem f_Parse_long (s : ByteArray) (w : World) (h : 4096 < s.size) (hs : s.size ≤ 100000000) :
    Calls Tryz.prog 30 #[.string s] w (ParseEnd w [] 0 3) := by
  have hb1 : Below w.heap.size w (w.alloc (.cells #[.slice none 0 0] 30)) := (Below.refl _ _).alloc (Nat.le_refl _) _
  have z1 : (4096 : Int) < (s.size : Int) := by omega
  have HB := Lib.hid hb1
  clear hb1
  go_enter Tryz.func30, Tryz.ntmps30
  go_wp2_with fail
  refine bodyPost_ret (v := .tuple #[.agg #[.slice none 0 0], .int .i64 0, .int .i64 3]) ?_ rfl ?_
  · simp [results, Tryz.results30, go_sem]
  · exact ⟨_, rfl, terms_none _ _, HB.out⟩
set_option maxRecDepth 100000 in
set_option maxHeartbeats 400000 in
theorem f_Parse_bad (s : ByteArray) (k : Nat) (w : World) (h : s.size ≤ 4096) (hl : ParOk w) (hp : parseF (blOf s) = .inr k) :
    Calls Tryz.prog 30 #[.string s] w (ParseEnd w [] (k : Int) 12) := by
  have hb1 : Below w.heap.size w (w.alloc (.cells #[.slice none 0 0] 30)) := (Below.refl _ _).alloc (Nat.le_refl _) _
  have z1 : ¬ (4096 : Int) < (s.size : Int) := by omega
  have HB := Lib.hid hb1
  have HL := Lib.hid (hl.later hb1)
  have HP := Lib.hid hp
  clear hb1 hl hp
  go_enter Tryz.func30, Tryz.ntmps30
  go_wp2_with fail
  refine (f_parse s _ (by omega) HL.out).mono ?_
  rintro e w2 ⟨hb2, h2⟩
  rw [HP.out] at h2
  obtain ⟨v, rfl⟩ := h2
  have hb3 := HB.out.trans (hb2.mono (by simp))
  have hbk : Blk w2 w.heap.size 30 #[.slice none 0 0] := (Blk.new w 30 #[.slice none 0 0]).below' hb2 (by simp)
  have hc := (hbk.cell 0).trans (show _ = some (Value.slice none 0 0) from rfl)
  have hf := hbk.frozen 0
  have HB3 := Lib.hid hb3
  have z2 : (0 : Int) ≤ (k : Int) := by omega
  clear hb2 hb3 hbk
  go_wp2_with fail
  refine bodyPost_ret (v := .tuple #[.agg #[.slice none 0 0], .int .i64 (k : Int), .int .i64 12]) ?_ rfl ?_
  · simp [results, Tryz.results30, go_sem, hc]
  · exact ⟨_, rfl, terms_none _ _, HB3.out.setCell (Nat.le_refl _) _⟩
set_option maxRecDepth 100000 in
set_option maxHeartbeats 400000 in
theorem f_Parse_ok (s : ByteArray) (T : Tree) (L : List Trm) (rb : Bool) (Lo : List Trm) (n : Int) (w : World) (h : s.size ≤ 4096) (hl : ParOk w) (hp : parseF (blOf s) = .inl T) (hL : flatT (s.size + 1) 0 T = L) (hr : rightB L = rb) (hE : Lo = (if rb then L else []) ∧ n = (if rb then 0 else 14)) :
    Calls Tryz.prog 30 #[.string s] w (ParseEnd w Lo 0 n) := by
  have hlen : L.length ≤ 4096 := by
    have h1 := parseF_terms hp (s.size + 1) 0
    have h2 := blOf_len s
    rw [hL] at h1; omega
  have hok : ∀ t ∈ L, TrmOk t := by
    intro t ht
    have h2 := blOf_len s
    obtain ⟨a1, a2, a3⟩ := parseF_tame hp (s.size + 1) 0 t (by rw [hL]; exact ht)
    exact ⟨by omega, by omega, by omega⟩
  have hb1 : Below w.heap.size w (w.alloc (.cells #[.slice none 0 0] 30)) := (Below.refl _ _).alloc (Nat.le_refl _) _
  have z1 : ¬ (4096 : Int) < (s.size : Int) := by omega
  have HB := Lib.hid hb1
  have HL := Lib.hid (hl.later hb1)
  have HP := Lib.hid hp
  have HFL := Lib.hid hL
  have HR := Lib.hid hr
  have HOK := Lib.hid hok
  have HE := Lib.hid hE
  clear hb1 hl hp hL hr hok hE
  go_enter Tryz.func30, Tryz.ntmps30
  go_wp2_with fail
  refine (f_parse s _ (by omega) HL.out).mono ?_
  rintro e w2 ⟨hb2, h2⟩
  rw [HP.out] at h2
  obtain ⟨v, rfl, ht⟩ := h2
  have hb3 := HB.out.trans (hb2.mono (by simp))
  have hbk : Blk w2 w.heap.size 30 #[.slice none 0 0] := (Blk.new w 30 #[.slice none 0 0]).below' hb2 (by simp)
  have HBK := Lib.hid hbk
  have hs2 : w.heap.size + 1 ≤ w2.heap.size := by have := hb2.size; simpa using this
  have HB3 := Lib.hid hb3
  have HT := Lib.hid ht
  obtain ⟨vb, rfl, hvb⟩ := ht.ptr
  clear hb2 hb3 hbk ht
  go_wp2_with fail
  refine (f_flat (s.size + 1) T _ _ [] (fun _ => undef) w2.heap.size _ w2 HT.out (fun b hb => hb.2) (Nat.le_refl _) (OwnTs.nil _ _ _) (by rw [show ([] : List Trm).length = 0 from rfl, HFL.out]; omega)).mono ?_
  rintro e w3 ⟨v', us', rfl, ho, hb4⟩
  rw [show ([] : List Trm) ++ flatT (s.size + 1) ([] : List Trm).length T = L from HFL.out] at ho
  have htm := ho.terms
  obtain ⟨A, c, rfl⟩ := own_slice ho.row
  have hs3 := hb4.size
  have HB5 := Lib.hid (HB3.out.trans (hb4.mono (by omega)))
  have HBK3 := Lib.hid (HBK.out.below' hb4 (by omega))
  have HTM := Lib.hid htm
  clear ho htm hb4
  go_wp2_with fail
  refine (f_Right _ L w3.heap.size _ ((HTM.out.keep (fun b hb => Below.heap_alloc w3 _ b hb.2)).mono (fun b hb => hb.2)) (by simp) (by omega) HOK.out).mono ?_
  rintro e w4 ⟨rfl, hb6⟩
  rw [HR.out]
  have hbk4 := (HBK3.out.alloc (.cells #[.slice A L.length c] 30)).below' hb6 (by simp; omega)
  have hbn4 : Blk w4 w3.heap.size 30 #[.slice A L.length c] := (Blk.new w3 30 #[.slice A L.length c]).below' hb6 (by simp)
  have hc := (hbk4.cell 0).trans (show _ = some (Value.slice none 0 0) from rfl)
  have hf := hbk4.frozen 0
  have hc7 := (hbn4.cell 0).trans (show _ = some (Value.slice A L.length c) from rfl)
  have hs4 := hb6.size
  simp at hs4
  have HB7 := Lib.hid (HB5.out.trans (((Below.refl w3.heap.size w3).alloc (Nat.le_refl _) (.cells #[.slice A L.length c] 30)).trans (hb6.mono (by simp))|>.mono (by omega)))
  have HTM4 := Lib.hid ((HTM.out.keep (w' := w4) (fun b hb => ((hb6.block b (by have := hb.2; simp; omega)).trans (Below.heap_alloc w3 _ b hb.2)))))
  clear hb6 hbk4 hbn4
  cases rb
  · have HE2 := Lib.hid (show Lo = [] ∧ n = 14 from HE.out)
    go_wp2_with fail
    refine bodyPost_ret (v := .tuple #[.agg #[.slice none 0 0], .int .i64 0, .int .i64 14]) ?_ rfl ?_
    · simp [results, Tryz.results30, go_sem, hc]
    · exact ⟨_, by rw [HE2.out.2], by rw [HE2.out.1]; exact terms_none _ _, HB7.out.setCell (Nat.le_refl _) _⟩
  · have HE2 := Lib.hid (show Lo = L ∧ n = 0 from HE.out)
    go_wp2_with fail
    refine bodyPost_ret (v := .tuple #[.agg #[.slice A L.length c], .int .i64 0, .int .i64 0]) ?_ rfl ?_
    · simp [results, Tryz.results30, go_sem, hc]
    · have hsz : (w4.setCell ⟨w.heap.size, 0, none⟩ (.slice A L.length c)).heap.size = w4.heap.size := by simp [World.setCell]
      refine ⟨_, by rw [HE2.out.2], ?_, HB7.out.setCell (Nat.le_refl _) _⟩
      rw [HE2.out.1]
      exact (HTM4.out.keep (fun b hb => Below.heap_setCell w4 ⟨w.heap.size, 0, none⟩ _ b (by have := hb.1; show b ≠ w.heap.size; omega))).mono fun b hb => ⟨by have := hb.1; omega, by have := hb.2; rw [hsz]; omega⟩
/-- forms.Parse on any text. -/
theorem f_Parse (s : ByteArray) (w : World) (hs : s.size ≤ 100000000) (hl : ParOk w) : Calls Tryz.prog 30 #[.string s] w (ParseEnd w (parseC (blOf s)).1 (parseC (blOf s)).2.1 (parseC (blOf s)).2.2) := by
  have h2 := blOf_len s
  unfold parseC
  split
  · exact f_Parse_long s w (by omega) hs
  · rcases hp : parseF (blOf s) with T | k
    · have h3 := f_Parse_ok s T _ _ _ _ w (by omega) hl hp rfl rfl ⟨rfl, rfl⟩
      rw [← h2] at h3
      simp only
      split
      · rename_i hr
        rw [hr] at h3; exact h3
      · rename_i hr
        rw [Bool.not_eq_true] at hr
        rw [hr] at h3; exact h3
    · exact f_Parse_bad s k w (by omega) hl hp
end Go.Proofs.YthibelndhcnifaaGreatDoor
namespace Go.Proofs.YthibelndhcnifaaGreatDoor
open Go.RowKit Num

/-! ### Spaces about the signs -/
/-! ### Terms with short fields and texts without signs -/
/-! ### How long a text is -/
theorem leaf_short (t : Trm) (hb : bareB t = true) (ht : KitT t) (hk : ¬ (t.kind = 1 ∨ t.kind = 2)) (d : Nat) (xs : List Tree) : (txT (d + 1) (.node t xs)).length ≤ 32 := by
  have hk8 := bare_kind hb
  have hn := nm_len t.kind hk8.1 hk8.2
  have hf : (blOf t.field).length ≤ 4 := by rw [blOf_len]; exact ht.1
  have htx : (blOf t.text).length ≤ 5 := by rw [blOf_len]; exact ht.2.1
  rw [txT_node, if_neg hk]
  unfold bareB at hb
  by_cases c3 : t.kind = 3 ∨ t.kind = 4
  · rw [if_neg (by omega), if_pos c3] at hb
    simp only [Bool.and_eq_true, decide_eq_true_eq, betwB] at hb
    have := itoa_small t.num (by omega) (by omega)
    rw [if_pos c3]; simp only [List.length_append, List.length_cons, List.length_nil]; omega
  · rw [if_neg c3]
    by_cases c5 : t.kind = 5
    · rw [if_neg (by omega), if_neg c3, if_pos c5] at hb
      simp only [Bool.and_eq_true, decide_eq_true_eq, betwB] at hb
      have h1 := itoa_small t.num (by omega) (by omega)
      have h2 := itoa_small t.yrs (by omega) (by omega)
      rw [c5] at hn
      rw [if_pos c5]; simp only [List.length_append, List.length_cons, List.length_nil, ofB]; omega
    · rw [if_neg c5]
      by_cases c7 : t.kind = 7
      · rw [if_neg (by omega), if_neg c3, if_neg c5, if_pos c7] at hb
        simp only [Bool.and_eq_true, decide_eq_true_eq, betwB] at hb
        have h1 := itoa_small t.num (by omega) (by omega)
        rw [c7] at hn
        rw [if_pos c7]; simp only [List.length_append, List.length_cons, List.length_nil, ofB]; omega
      · rw [if_neg c7]; omega
theorem growA_short {l : List Trm} {d : Nat} (hd : ∀ {at_ T n}, growF l d at_ = some (T, n) → (txT d T).length + 2 ≤ 34 * (n - at_) ∧ at_ ≤ n) :
    ∀ {ks nx xs n}, growA (growF l d) ks nx = some (xs, n) → (Lib.joinTail [44, 32] (xs.map (txT d))).length ≤ 34 * (n - nx) ∧ nx ≤ n := by
  intro ks
  induction ks with
  | nil => intro nx xs n h; simp [growA] at h; obtain ⟨rfl, rfl⟩ := h; simp [Lib.joinTail]
  | cons k ks ih =>
    intro nx xs n h
    unfold growA at h
    split at h
    · split at h
      · cases h
      · rename_i x af hx
        split at h
        · cases h
        · rename_i xs' n' ha
          injection h with h; injection h with h1 h2; subst h1; subst h2
          obtain ⟨e1, e2⟩ := hd hx
          obtain ⟨f1, f2⟩ := ih ha
          simp only [Lib.joinTail, List.map_cons, List.flatten_cons, List.length_append, List.length_cons, List.length_nil] at f1 ⊢
          omega
    · cases h
theorem grow_short {l : List Trm} (hl : ∀ t ∈ l, KitT t) : ∀ d {at_ T n}, growF l d at_ = some (T, n) → (txT d T).length + 2 ≤ 34 * (n - at_) ∧ at_ ≤ n := by
  intro d
  induction d with
  | zero => intro at_ T n h; simp [growF] at h
  | succ d ih =>
    intro at_ T n h
    unfold growF at h
    split at h
    · cases h
    · rename_i t ht
      split at h
      · rename_i hb
        rw [Bool.and_eq_true] at hb
        split at h
        · cases h
        · rename_i xs n' ha
          injection h with h; injection h with h1 h2; subst h1; subst h2
          obtain ⟨f1, f2⟩ := growA_short ih ha
          refine ⟨?_, by omega⟩
          by_cases hk : t.kind = 1 ∨ t.kind = 2
          · have hk8 := bare_kind hb.1
            have hn := nm_len t.kind hk8.1 hk8.2
            have hj := joinS_tail [44, 32] (xs.map (txT d))
            rw [txT_node, if_pos hk]
            simp only [List.length_append, List.length_cons, List.length_nil]
            omega
          · have := leaf_short t hb.1 (hl t (List.mem_of_getElem? ht)) hk d xs
            omega
      · cases h
/-! ### What is read back -/
theorem nm_ge (k : Int) (h1 : 1 ≤ k) (h2 : k ≤ 8) : 3 ≤ (nmK k).length ∧ (k ≠ 1 → k ≠ 2 → 5 ≤ (nmK k).length ∨ k = 7) := by
  have : ∀ j : Fin 9, 1 ≤ j.val → 3 ≤ (nmK (j.val : Int)).length ∧ (j.val ≠ 1 → j.val ≠ 2 → 5 ≤ (nmK (j.val : Int)).length ∨ j.val = 7) := by decide
  obtain ⟨m, rfl⟩ := Int.eq_ofNat_of_zero_le (show 0 ≤ k by omega)
  obtain ⟨a, b⟩ := this ⟨m, by omega⟩ (by show 1 ≤ m; omega)
  refine ⟨a, fun h3 h4 => ?_⟩
  rcases b (by show m ≠ 1; omega) (by show m ≠ 2; omega) with c | c
  · exact .inl c
  · exact .inr (by have c' : m = 7 := c; omega)
theorem text_ge {pre post : List UInt8} {d : Nat} {T : Tree} (h : GoodT d T) : 5 ≤ (textG pre post d T).length := by
  cases d with
  | zero => exact h.elim
  | succ d =>
    obtain ⟨t, xs⟩ := T
    obtain ⟨hb, _⟩ := h
    have hk := bare_kind hb
    obtain ⟨g1, g2⟩ := nm_ge t.kind hk.1 hk.2
    rw [textG_node]
    split
    · simp only [List.length_append, List.length_cons, List.length_nil]; omega
    · split
      · simp only [List.length_append, List.length_cons, List.length_nil]; omega
      · split
        · simp only [List.length_append, List.length_cons, List.length_nil, ofB]; omega
        · split
          · simp only [List.length_append, List.length_cons, List.length_nil, ofB]; omega
          · rcases g2 (by omega) (by omega) with g | g
            · exact g
            · omega
theorem parseC_tree {s : List UInt8} {L : List Trm} {T : Tree} (h : rootF L = some T) (h1 : s.length ≤ 4096) (h5 : 5 ≤ s.length) (hp : parseF s = .inl (eraseF 6 T)) : parseC s = (L, 0, 0) := by
  obtain ⟨hg, hL⟩ := root_some h
  have hgood := grow_good 6 hg
  have hfl : flatT (s.length + 1) 0 (eraseF 6 T) = L := by
    rw [← erase_mono 6 (s.length + 1) hgood (by omega), flat_mono 6 (s.length + 1) hgood (by omega), (flat_grow 6 hg).1]
    simp
  unfold parseC
  rw [if_neg (by omega), hp]
  simp only [hfl]
  rw [if_pos (by unfold rightB; rw [h]; rfl)]
theorem back_len {L : List Trm} {T : Tree} (h : rootF L = some T) (hk : ∀ t ∈ L, KitT t) : (txT 6 T).length ≤ 820 := by
  obtain ⟨hg, hL⟩ := root_some h
  have := (grow_short hk 6 hg).1
  omega
theorem back_same {L : List Trm} {T : Tree} (h : rootF L = some T) (hk : ∀ t ∈ L, KitT t) : parseC (txT 6 T) = (L, 0, 0) := by
  have hl := back_len h hk
  have hgood := grow_good 6 (root_some h).1
  refine parseC_tree h (by omega) (text_ge hgood) ?_
  have := parse_text (pre := []) (post := []) (fun c hc => by cases hc) (fun c hc => by cases hc) hgood [] (fun c hc => by cases hc)
  rwa [List.nil_append] at this
end Go.Proofs.YthibelndhcnifaaGreatDoor
namespace Go.Proofs.YthibelndhcnifaaGreatDoor
open Go.RowKit Num

/-- A text is read from its bytes: it, and how many bytes it took. -/
def txtR (l : List UInt8) : Except Int (List UInt8 × Nat) := match numR 0 0 l with
  | .error z => .error z
  | .ok (U, m) => if unz U < 0 then .error 4 else if ((l.length - m : Nat) : Int) < unz U then .error 5 else .ok ((l.drop m).take (unz U).toNat, m + (unz U).toNat)
/-- What a reader has still to read, and whether something could not be read. -/
structure RS where
  rest : List UInt8
  bad : Bool
def rdI (s : RS) : Int × RS := if s.bad then (0, s) else match numR 0 0 s.rest with
  | .ok (U, m) => (unz U, ⟨s.rest.drop m, false⟩)
  | .error _ => (0, ⟨s.rest, true⟩)
def rdT (s : RS) : ByteArray × RS := if s.bad then (⟨#[]⟩, s) else match txtR s.rest with
  | .ok (x, m) => (bsOf x, ⟨s.rest.drop m, false⟩)
  | .error _ => (⟨#[]⟩, ⟨s.rest, true⟩)
def rdAns (s : RS) : Ans × RS := (⟨(rdT s).1, (rdT (rdT s).2).1, (rdI (rdT (rdT s).2).2).1⟩, (rdI (rdT (rdT s).2).2).2)
def rdShw (s : RS) : Shw × RS := (⟨(rdT s).1, (rdT (rdT s).2).1⟩, (rdT (rdT s).2).2)
def timesR {α : Type} (item : RS → α × RS) : Nat → RS → List α × RS
  | 0, s => ([], s)
  | n + 1, s => if s.bad then ([], s) else ((item s).1 :: (timesR item n (item s).2).1, (timesR item n (item s).2).2)
def rdTimes {α : Type} (item : RS → α × RS) (s : RS) : List α × RS := if (rdI s).1 < 0 ∨ 256 < (rdI s).1 then ([], ⟨(rdI s).2.rest, true⟩) else timesR item (rdI s).1.toNat (rdI s).2
theorem put_drop (l r : List UInt8) : (l ++ r).drop l.length = r := List.drop_left
theorem rdI_put {n : Int} (h1 : -9223372036854775808 ≤ n) (h2 : n < 9223372036854775808) (r : List UInt8) : rdI ⟨putB n ++ r, false⟩ = (n, ⟨r, false⟩) := by
  unfold rdI
  rw [if_neg (by simp)]
  dsimp only
  rw [numR_put n h1 h2 r]
  dsimp only
  rw [unz_zig, put_drop]
theorem txtR_put {s : ByteArray} (hs : s.size ≤ 4294967296) (r : List UInt8) : txtR (textL s ++ r) = .ok (blOf s, (textL s).length) := by
  have hl : (blOf s).length = s.size := Array.length_toList
  unfold txtR textL
  rw [List.append_assoc, numR_put (s.size : Int) (by omega) (by omega)]
  dsimp only
  rw [unz_zig, put_drop, if_neg (by omega), if_neg (by simp only [List.length_append]; omega)]
  congr 2
  · rw [Int.toNat_natCast, ← hl, List.take_left]
  · rw [Int.toNat_natCast, List.length_append, hl]
theorem rdT_put {s : ByteArray} (hs : s.size ≤ 4294967296) (r : List UInt8) : rdT ⟨textL s ++ r, false⟩ = (s, ⟨r, false⟩) := by
  unfold rdT
  rw [if_neg (by simp)]
  dsimp only
  rw [txtR_put hs r]
  dsimp only
  rw [put_drop]; rfl
theorem rdAns_put {a : Ans} (h1 : a.field.size ≤ 4294967296) (h2 : a.text.size ≤ 4294967296) (h3 : -9223372036854775808 ≤ a.num ∧ a.num < 9223372036854775808) (r : List UInt8) : rdAns ⟨ansL a ++ r, false⟩ = (a, ⟨r, false⟩) := by
  unfold rdAns ansL
  rw [List.append_assoc, List.append_assoc, rdT_put h1]
  dsimp only
  rw [rdT_put h2]
  dsimp only
  rw [rdI_put h3.1 h3.2]
theorem rdShw_put {a : Shw} (h1 : a.field.size ≤ 4294967296) (h2 : a.role.size ≤ 4294967296) (r : List UInt8) : rdShw ⟨shwL a ++ r, false⟩ = (a, ⟨r, false⟩) := by
  unfold rdShw shwL
  rw [List.append_assoc, rdT_put h1]
  dsimp only
  rw [rdT_put h2]
theorem timesR_put {α : Type} {item : RS → α × RS} {w : α → List UInt8} : ∀ (L : List α) (r : List UInt8), (∀ a ∈ L, ∀ r, item ⟨w a ++ r, false⟩ = (a, ⟨r, false⟩)) → timesR item L.length ⟨L.flatMap w ++ r, false⟩ = (L, ⟨r, false⟩)
  | [], r, _ => rfl
  | a :: L, r, h => by
    have h1 := h a (by simp) (L.flatMap w ++ r)
    have h2 := timesR_put L r fun b hb => h b (by simp [hb])
    show (if (false : Bool) = true then _ else _) = _
    rw [if_neg (by simp), List.flatMap_cons, List.append_assoc, h1]
    dsimp only
    rw [h2]
theorem rdTimes_put {α : Type} {item : RS → α × RS} {w : α → List UInt8} (L : List α) (r : List UInt8) (hL : L.length ≤ 256) (h : ∀ a ∈ L, ∀ r, item ⟨w a ++ r, false⟩ = (a, ⟨r, false⟩)) : rdTimes item ⟨putB (L.length : Int) ++ (L.flatMap w ++ r), false⟩ = (L, ⟨r, false⟩) := by
  unfold rdTimes
  rw [rdI_put (by omega) (by omega)]
  dsimp only
  rw [if_neg (by omega), Int.toNat_natCast]
  exact timesR_put L r h
/-! ### A statement -/
def rs1 (b : ByteArray) : ByteArray × RS := rdT ⟨blOf b, false⟩
def rs2 (b : ByteArray) : Int × RS := rdI (rs1 b).2
def rs3 (b : ByteArray) : Int × RS := rdI (rs2 b).2
def rs4 (b : ByteArray) : List Ans × RS := rdTimes rdAns (rs3 b).2
def rs5 (b : ByteArray) : ByteArray × RS := rdT (rs4 b).2
def rs6 (b : ByteArray) : List Shw × RS := rdTimes rdShw (rs5 b).2
/-- The statement that is read. -/
def rsS (b : ByteArray) : Stm := ⟨(rs1 b).1, (rs2 b).1, (rs3 b).1, (rs4 b).1, (parseC (blOf (rs5 b).1)).1, (rs6 b).1⟩
/-- All was well. -/
def rsOk (b : ByteArray) : Prop := (rs6 b).2.bad = false ∧ (parseC (blOf (rs5 b).1)).2.2 = 0 ∧ bytZ (rsS b) = 0 ∧ bytS (rsS b) = b
theorem bytZ_parts {s : Stm} (h : bytZ s = 0) : (rootF s.cond).isSome = true ∧ max s.ans.length s.shw.length ≤ 256 ∧ (stmW s).length ≤ 16384 ∧ bytS s = bO (stmW s) := by
  unfold bytZ at h
  by_cases h1 : (rootF s.cond).isSome = true
  · rw [if_pos h1] at h
    by_cases h2 : max s.ans.length s.shw.length ≤ 256
    · rw [if_pos h2] at h
      by_cases h3 : (stmW s).length ≤ 16384
      · refine ⟨h1, h2, h3, ?_⟩
        unfold bytS
        rw [if_pos h1, if_pos h2, if_pos h3]
      · rw [if_neg h3] at h; cases h
    · rw [if_neg h2] at h; cases h
  · rw [if_neg h1] at h; cases h
theorem stmW_parts (s : Stm) : stmW s = textL s.resp ++ (putB s.dep ++ (putB s.day ++ (putB (s.ans.length : Int) ++ (s.ans.flatMap ansL ++ (textL (prnS s.cond) ++ (putB (s.shw.length : Int) ++ (s.shw.flatMap shwL ++ []))))))) := by
  unfold stmW stmC stmB stmA headL
  rw [List.take_length, List.take_length]
  simp only [List.append_assoc, List.append_nil]
theorem read_back (s : Stm) (hok : StmOk s) (hz : bytZ s = 0) (hk : ∀ t ∈ s.cond, KitT t) : rsS (bytS s) = s ∧ rsOk (bytS s) := by
  obtain ⟨h1, h2, h3, h4⟩ := bytZ_parts hz
  have hb : blOf (bytS s) = stmW s := by rw [h4]; rfl
  have hans : ∀ a ∈ s.ans, ∀ r, rdAns ⟨ansL a ++ r, false⟩ = (a, ⟨r, false⟩) := fun a ha r => by
    obtain ⟨k, hkl, rfl⟩ := List.mem_iff_getElem.1 ha
    have e : ansAt s.ans k = s.ans[k] := by unfold ansAt; rw [List.getD_eq_getElem?_getD, List.getElem?_eq_getElem hkl]; rfl
    have := hok.ans k hkl
    rw [e] at this
    exact rdAns_put (by omega) (by omega) this.2.2 r
  have hshw : ∀ a ∈ s.shw, ∀ r, rdShw ⟨shwL a ++ r, false⟩ = (a, ⟨r, false⟩) := fun a ha r => by
    obtain ⟨k, hkl, rfl⟩ := List.mem_iff_getElem.1 ha
    have e : shwAt s.shw k = s.shw[k] := by unfold shwAt; rw [List.getD_eq_getElem?_getD, List.getElem?_eq_getElem hkl]; rfl
    have := hok.shw k hkl
    rw [e] at this
    exact rdShw_put (by omega) (by omega) r
  have hp := prnS_size s.cond
  have e1 : rs1 (bytS s) = (s.resp, ⟨putB s.dep ++ (putB s.day ++ (putB (s.ans.length : Int) ++ (s.ans.flatMap ansL ++ (textL (prnS s.cond) ++ (putB (s.shw.length : Int) ++ (s.shw.flatMap shwL ++ [])))))), false⟩) := by
    unfold rs1; rw [hb, stmW_parts]; exact rdT_put (by have := hok.resp; omega) _
  have e2 : rs2 (bytS s) = (s.dep, ⟨putB s.day ++ (putB (s.ans.length : Int) ++ (s.ans.flatMap ansL ++ (textL (prnS s.cond) ++ (putB (s.shw.length : Int) ++ (s.shw.flatMap shwL ++ []))))), false⟩) := by
    unfold rs2; rw [e1]; exact rdI_put hok.dep.1 hok.dep.2 _
  have e3 : rs3 (bytS s) = (s.day, ⟨putB (s.ans.length : Int) ++ (s.ans.flatMap ansL ++ (textL (prnS s.cond) ++ (putB (s.shw.length : Int) ++ (s.shw.flatMap shwL ++ [])))), false⟩) := by
    unfold rs3; rw [e2]; exact rdI_put hok.day.1 hok.day.2 _
  have e4 : rs4 (bytS s) = (s.ans, ⟨textL (prnS s.cond) ++ (putB (s.shw.length : Int) ++ (s.shw.flatMap shwL ++ [])), false⟩) := by
    unfold rs4; rw [e3]; exact rdTimes_put s.ans _ (by omega) hans
  have e5 : rs5 (bytS s) = (prnS s.cond, ⟨putB (s.shw.length : Int) ++ (s.shw.flatMap shwL ++ []), false⟩) := by
    unfold rs5; rw [e4]; exact rdT_put (by omega) _
  have e6 : rs6 (bytS s) = (s.shw, ⟨[], false⟩) := by
    unfold rs6; rw [e5]; exact rdTimes_put s.shw [] (by omega) hshw
  have ep : parseC (blOf (prnS s.cond)) = (s.cond, 0, 0) := by
    obtain ⟨T, hT⟩ := Option.isSome_iff_exists.1 h1
    have := back_same hT hk
    unfold prnS
    rw [hT]
    exact this
  have eS : rsS (bytS s) = s := by
    unfold rsS
    rw [e1, e2, e3, e4, e5, e6, ep]
  refine ⟨eS, ?_⟩
  unfold rsOk
  rw [eS, e6, e5, ep]
  exact ⟨rfl, rfl, hz, rfl⟩
end Go.Proofs.YthibelndhcnifaaGreatDoor
