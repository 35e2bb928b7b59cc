/- Contracts: the bytes of texts and of lists of texts, the program's and the reference's. Plain: what was printed is read back. No program stands in it. Contracts: decimal texts of numbers, and numbers of decimal texts; what they want of Go's own variables. -/
import Derived.Test.YtgeahbmaeaoeeaaGreatDoorQ12
import Derived.Test.YtgeahbmaeaoeeaaGreatDoorQ06
import Derived.Test.YtgeahbmaeaoeeaaGreatDoorQ08
set_option linter.unusedVariables false
set_option linter.unusedSimpArgs false
namespace Go.Proofs.YtgeahbmaeaoeeaaGreatDoor
open Go.RowKit Num

/-- The bytes of a text, and of a list of texts, so many of them. -/
def textL (s : ByteArray) : List UInt8 := putB s.size ++ blOf s
def textsL (ss : List ByteArray) (k : Nat) : List UInt8 := putB ss.length ++ (ss.take k).flatMap textL
def textsB (ss : List ByteArray) : ByteArray := ⟨(textsL ss ss.length).toArray⟩
theorem textsL_succ {ss : List ByteArray} {k : Nat} (h : k < ss.length) : textsL ss (k + 1) = textsL ss k ++ textL (ss.getD k ⟨#[]⟩) := by
  unfold textsL
  rw [List.take_succ_eq_append_getElem h, List.flatMap_append, List.flatMap_cons, List.flatMap_nil, List.append_nil, List.getD_eq_getElem?_getD, List.getElem?_eq_getElem h, List.append_assoc]
  rfl
theorem textL_len (s : ByteArray) : (textL s).length ≤ 11 + s.size := by
  unfold textL
  rw [List.length_append, blOf_len]
  have := putB_len (s.size : Int)
  omega
theorem textsL_len {ss : List ByteArray} {M : Nat} (hs : ∀ k, k < ss.length → (ss.getD k ⟨#[]⟩).size ≤ M) : ∀ k, k ≤ ss.length → (textsL ss k).length ≤ 11 + k * (11 + M) := by
  intro k
  induction k with
  | zero => intro _; show (putB ss.length ++ []).length ≤ _; rw [List.append_nil]; have := putB_len (ss.length : Int); omega
  | succ k ih =>
    intro h
    rw [textsL_succ (by omega), List.length_append]
    have h1 := ih (by omega)
    have h2 := hs k (by omega)
    have h3 := textL_len (ss.getD k ⟨#[]⟩)
    rw [Nat.succ_mul]
    omega
theorem put_text (b s : ByteArray) : b ++ ⟨(putB (s.size : Int)).toArray⟩ ++ s = b ++ ⟨(textL s).toArray⟩ := by
  have e : (⟨(textL s).toArray⟩ : ByteArray) = ⟨(putB (s.size : Int)).toArray⟩ ++ s := by
    show _ = (⟨(putB (s.size : Int)).toArray⟩ : ByteArray) ++ ⟨(blOf s).toArray⟩
    rw [bytes_two]
    rfl
  rw [e, ByteArray.append_assoc]
def TxtPost (b s : ByteArray) (w : World) (e : Ending) (w' : World) : Prop := e = .returned (.string (b ++ ⟨(textL s).toArray⟩)) ∧ Below w.heap.size w w'
set_option maxRecDepth 100000 in
set_option maxHeartbeats 1000000 in
theorem c_PutText (b s : ByteArray) (w : World) (hb : b.size < 4000000000) (hs : s.size ≤ 4294967295) :
    Calls Tryz.prog 82 #[.string b, .string s] w (TxtPost b s w) := by
  have hp := fun W => c_PutInt b (s.size : Int) W (by omega) (by omega) (by omega)
  unfold PutPost at hp
  have hl := putB_len (s.size : Int)
  have he := put_text b s
  obtain ⟨x, hx⟩ : ∃ x : ByteArray, ⟨(putB (s.size : Int)).toArray⟩ = x := ⟨_, rfl⟩
  have hxs : x.size ≤ 11 := by rw [← hx]; show (putB (s.size : Int)).toArray.size ≤ 11; rw [List.size_toArray]; exact hl
  rw [hx] at hp he
  have hbx : (b ++ x).size = b.size + x.size := ByteArray.size_append
  obtain ⟨y, hy⟩ : ∃ y, b ++ x = y := ⟨_, rfl⟩
  rw [hy] at hp he hbx
  have hys : y.size ≤ 4000000011 := by omega
  have hz : ¬ 9223372036854775807 < y.size + s.size := by omega
  have HP := Lib.hid hp
  have HE := Lib.hid he
  clear hp he hl hx hbx hy
  go_enter Tryz.func82, Tryz.ntmps82
  go_wp2_with fail
  refine (HP.out _).mono ?_
  rintro e w1 ⟨rfl, hb1⟩
  have HB1 := Lib.hid hb1
  clear hb1
  go_wp2_with fail
  go_ret
  exact ⟨by rw [← HE.out]; rfl, HB1.out⟩
def TxsE (ss : List ByteArray) (w : World) (e : Ending) (w' : World) : Prop := e = .returned (.string (textsB ss)) ∧ Below w.heap.size w w'
end Go.Proofs.YtgeahbmaeaoeeaaGreatDoor
namespace Go.Proofs.YtgeahbmaeaoeeaaGreatDoor
open Go

def dec3 (n : Nat) : List UInt8 := if n < 10 then [UInt8.ofNat (48 + n)] else if n < 100 then [UInt8.ofNat (48 + n / 10), UInt8.ofNat (48 + n % 10)] else [UInt8.ofNat (48 + n / 10 / 10), UInt8.ofNat (48 + n / 10 % 10), UInt8.ofNat (48 + n % 10)]
theorem itoa_dec3 (n : Nat) (h : n < 1000) : Lib.itoa (n : Int) = dec3 n := by
  unfold Lib.itoa dec3
  rw [if_neg (by omega)]
  simp only [Int.toNat_natCast]
  by_cases h1 : n < 10
  · rw [if_pos h1, Lib.decDigits, dif_pos h1]
  · rw [if_neg h1, Lib.decDigits, dif_neg h1]
    by_cases h2 : n < 100
    · rw [if_pos h2, Lib.decDigits, dif_pos (by omega)]; rfl
    · rw [if_neg h2, Lib.decDigits, dif_neg (by omega), Lib.decDigits, dif_pos (by omega)]; rfl
set_option maxRecDepth 100000 in
theorem dec3_all : ∀ n : Fin 101, Lib.atoiAll (dec3 n.val) = .ok (n.val : Int) ∧ (dec3 n.val).length ≤ 3 ∧ dec3 n.val ≠ [] ∧ (dec3 n.val).all inWB = true := by decide
theorem num_spec (n : Int) (h0 : 0 ≤ n) (h1 : n ≤ 100) : isNumB (Lib.itoa n) = some n ∧ Lib.itoa n ≠ [] ∧ ∀ c ∈ Lib.itoa n, inWB c = true := by
  obtain ⟨m, rfl⟩ := Int.eq_ofNat_of_zero_le h0
  obtain ⟨e1, e2, e3, e4⟩ := dec3_all ⟨m, by omega⟩
  have e := itoa_dec3 m (by omega)
  unfold isNumB
  rw [e, e1]
  simp only
  rw [if_pos ⟨e2, e⟩]
  exact ⟨rfl, e3, by simpa using e4⟩
theorem numF_itoa (n : Int) (h0 : 0 ≤ n) (h1 : n ≤ 100) {q : List UInt8} (hq : Bnd q) : numF (Lib.itoa n ++ q) = some (n, spaceB q) := by
  obtain ⟨e1, e2, e3⟩ := num_spec n h0 h1
  unfold numF
  rw [take_in e2 e3 hq (by unfold numB'; rw [e1]; rfl)]
  simp only [e1]
set_option maxRecDepth 100000 in
theorem nm_all : ∀ k : Fin 9, 1 ≤ k.val → kindB (nmK (k.val : Int)) = (k.val : Int) ∧ nmK (k.val : Int) ≠ [] ∧ (nmK (k.val : Int)).all inWB = true := by decide
theorem nm_spec (k : Int) (h1 : 1 ≤ k) (h2 : k ≤ 8) : kindB (nmK k) = k ∧ nmK k ≠ [] ∧ ∀ c ∈ nmK k, inWB c = true := by
  obtain ⟨m, rfl⟩ := Int.eq_ofNat_of_zero_le (show 0 ≤ k by omega)
  obtain ⟨e1, e2, e3⟩ := nm_all ⟨m, by omega⟩ (by show 1 ≤ m; omega)
  exact ⟨e1, e2, by simpa using e3⟩
theorem take_nm (k : Int) (h1 : 1 ≤ k) (h2 : k ≤ 8) {q : List UInt8} (hq : Bnd q) : takeB (fun w => decide (0 < kindB w)) (nmK k ++ q) = some (nmK k, spaceB q) := by
  obtain ⟨e1, e2, e3⟩ := nm_spec k h1 h2
  exact take_in e2 e3 hq (by rw [e1]; simp; omega)
theorem take_of {q : List UInt8} (hq : Bnd q) : takeB (· == ofB) (ofB ++ q) = some (ofB, spaceB q) := take_in (by decide) (by decide) hq (by decide)
theorem name_spec {l : List UInt8} (h : nameB l = true) : l ≠ [] ∧ ∀ c ∈ l, inWB c = true := by
  unfold nameB at h
  simp only [Bool.and_eq_true, decide_eq_true_eq] at h
  obtain ⟨⟨⟨⟨h1, h2⟩, h3⟩, h4⟩, h5⟩ := h
  exact ⟨by rintro rfl; simp at h1, by simpa using h5⟩
theorem bnd_sp {q : List UInt8} (c : UInt8) (h : spB c = true) : Bnd (c :: q) := .inr (sp_not_in h)
theorem space_word {c : UInt8} {q : List UInt8} (h : inWB c = true) : spaceB (c :: q) = c :: q := space_stop (.inr (in_not_sign h).2.2)
theorem space_words {a q : List UInt8} (h0 : a ≠ []) (h : ∀ c ∈ a, inWB c = true) : spaceB (a ++ q) = a ++ q := by
  cases a with
  | nil => exact absurd rfl h0
  | cons c a => exact space_word (h c (by simp))
theorem space_32 (q : List UInt8) : spaceB (32 :: q) = spaceB q := space_app (a := [32]) (by decide)

section
variable {pre post : List UInt8}
abbrev sgB (pre post : List UInt8) (c : UInt8) : List UInt8 := pre ++ [c] ++ post
theorem bnd_sg (hpre : ∀ c ∈ pre, spB c = true) {c : UInt8} (hc : signB c = true) (q : List UInt8) : Bnd (sgB pre post c ++ q) := by
  cases pre with
  | nil => exact .inr (sign_not_in hc)
  | cons d p => exact .inr (sp_not_in (hpre d (by simp)))
theorem space_sg (hpre : ∀ c ∈ pre, spB c = true) {c : UInt8} (hc : spB c = false) (q : List UInt8) : spaceB (sgB pre post c ++ q) = c :: (post ++ q) := by
  unfold sgB
  rw [List.append_assoc, List.append_assoc, space_app hpre]
  exact space_stop (.inr hc)
theorem size0 {s : ByteArray} (h : s.size = 0) : s = E0 := by
  apply blOf_inj
  have : s.data.toList.length = 0 := by rw [Array.length_toList]; exact h
  rw [show blOf s = [] from List.eq_nil_of_length_eq_zero this]; rfl
/-- The kinds of a term that is right. -/
theorem bare_kind {t : Trm} (h : bareB t = true) : 1 ≤ t.kind ∧ t.kind ≤ 8 := by
  unfold bareB at h
  split at h
  · omega
  · split at h
    · omega
    · split at h
      · omega
      · split at h
        · omega
        · cases h
theorem textG_node (d : Nat) (t : Trm) (xs : List Tree) : textG pre post (d + 1) (.node t xs) =
    if t.kind = 1 ∨ t.kind = 2 then nmK t.kind ++ (pre ++ [40] ++ post) ++ joinS (pre ++ [44] ++ post ++ [32]) (xs.map (textG pre post d)) ++ (pre ++ [41] ++ post)
    else if t.kind = 3 ∨ t.kind = 4 then nmK t.kind ++ [32] ++ Lib.itoa t.num
    else if t.kind = 5 then nmK 5 ++ [32] ++ Lib.itoa t.yrs ++ [32] ++ ofB ++ [32] ++ Lib.itoa t.num
    else if t.kind = 7 then nmK 7 ++ [32] ++ blOf t.field ++ [32, 34] ++ blOf t.text ++ [34, 32] ++ ofB ++ [32] ++ Lib.itoa t.num
    else nmK t.kind := rfl
theorem good_text {d : Nat} {T : Tree} (h : GoodT d T) : ∃ c r, textG pre post d T = c :: r ∧ inWB c = true := by
  cases d with
  | zero => exact h.elim
  | succ d =>
    obtain ⟨t, xs⟩ := T
    obtain ⟨hb, _⟩ := h
    have hk := bare_kind hb
    obtain ⟨_, e2, e3⟩ := nm_spec t.kind hk.1 hk.2
    have key : ∀ s : List UInt8, ∃ c r, nmK t.kind ++ s = c :: r ∧ inWB c = true := by
      intro s
      cases hn : nmK t.kind with
      | nil => exact absurd hn e2
      | cons c r => exact ⟨c, r ++ s, rfl, e3 c (by rw [hn]; simp)⟩
    rw [textG_node]
    split
    · simp only [List.append_assoc]; exact key _
    · split
      · simp only [List.append_assoc]; exact key _
      · split
        · rename_i h5; rw [← h5]; simp only [List.append_assoc]; exact key _
        · split
          · rename_i h7; rw [← h7]; simp only [List.append_assoc]; exact key _
          · have := key []; rwa [List.append_nil] at this
theorem space_text {d : Nat} {T : Tree} (h : GoodT d T) (q : List UInt8) : spaceB (textG pre post d T ++ q) = textG pre post d T ++ q := by
  obtain ⟨c, r, e, hc⟩ := good_text (pre := pre) (post := post) h
  rw [e]; exact space_word hc
def sepB (pre post : List UInt8) : List UInt8 := sgB pre post 44 ++ [32]
theorem more_text (hpre : ∀ c ∈ pre, spB c = true) (hpost : ∀ c ∈ post, spB c = true) {d : Nat}
    (ih : ∀ (T : Tree) (q : List UInt8) (f : Nat), GoodT d T → Bnd q → (textG pre post d T ++ q).length < f → PF f .cond (textG pre post d T ++ q) = .ok [eraseF d T] (spaceB q)) :
    ∀ (xs : List Tree) (acc : List Tree) (q : List UInt8) (f : Nat), (∀ x ∈ xs, GoodT d x) → Bnd q →
      (Lib.joinTail (sepB pre post) (xs.map (textG pre post d)) ++ (sgB pre post 41 ++ q)).length < f →
      PF f (.more acc) (spaceB (Lib.joinTail (sepB pre post) (xs.map (textG pre post d)) ++ (sgB pre post 41 ++ q))) = .ok (acc ++ xs.map (eraseF d)) (spaceB q) := by
  intro xs
  induction xs with
  | nil =>
    intro acc q f hx hq hf
    obtain ⟨f, rfl⟩ : ∃ g, f = g + 1 := ⟨f - 1, by omega⟩
    simp only [List.map_nil, Lib.joinTail, List.flatten_nil, List.nil_append, List.append_nil]
    rw [space_sg hpre (by decide)]
    simp only [PF]
    rw [word_sign (by decide), if_neg (by decide), take_sign (by decide) (by decide)]
    simp only
    rw [space_app hpost]
  | cons x xs ihx =>
    intro acc q f hx hq hf
    obtain ⟨f, rfl⟩ : ∃ g, f = g + 1 := ⟨f - 1, by omega⟩
    have hgx := hx x (by simp)
    obtain ⟨tl, htl⟩ : ∃ tl, Lib.joinTail (sepB pre post) (xs.map (textG pre post d)) = tl := ⟨_, rfl⟩
    have e : Lib.joinTail (sepB pre post) ((x :: xs).map (textG pre post d)) ++ (sgB pre post 41 ++ q) = sgB pre post 44 ++ (32 :: (textG pre post d x ++ (tl ++ (sgB pre post 41 ++ q)))) := by
      simp [← htl, Lib.joinTail, sepB, List.append_assoc]
    rw [e, space_sg hpre (by decide)]
    rw [e] at hf
    simp only [PF]
    rw [word_sign (by decide), if_pos rfl, take_sign (by decide) (by decide)]
    simp only
    rw [space_app hpost, space_32, space_text hgx]
    have hb : Bnd (tl ++ (sgB pre post 41 ++ q)) := by
      cases xs with
      | nil => rw [← htl]; exact bnd_sg hpre (by decide) q
      | cons y ys =>
        rw [← htl]
        have : Lib.joinTail (sepB pre post) ((y :: ys).map (textG pre post d)) ++ (sgB pre post 41 ++ q) = sgB pre post 44 ++ ([32] ++ textG pre post d y ++ (Lib.joinTail (sepB pre post) (ys.map (textG pre post d)) ++ (sgB pre post 41 ++ q))) := by simp [Lib.joinTail, sepB, List.append_assoc]
        rw [this]; exact bnd_sg hpre (by decide) _
    rw [ih x _ f hgx hb (by simp only [List.length_append, List.length_cons, List.length_nil] at hf ⊢; omega)]
    simp only
    rw [← htl]
    rw [← htl] at hf
    rw [ihx (acc ++ [eraseF d x]) q f (fun y hy => hx y (by simp [hy])) hq (by simp only [List.length_append, List.length_cons, List.length_nil] at hf ⊢; omega)]
    simp [List.append_assoc]
/-- What was printed is read. -/
theorem read_text (hpre : ∀ c ∈ pre, spB c = true) (hpost : ∀ c ∈ post, spB c = true) : ∀ (d : Nat) (T : Tree) (q : List UInt8) (f : Nat), GoodT d T → Bnd q → (textG pre post d T ++ q).length < f →
    PF f .cond (textG pre post d T ++ q) = .ok [eraseF d T] (spaceB q) := by
  intro d
  induction d with
  | zero => intro T q f h; exact h.elim
  | succ d ih =>
    intro T q f h hq hf
    obtain ⟨f, rfl⟩ : ∃ g, f = g + 1 := ⟨f - 1, by omega⟩
    obtain ⟨t, xs⟩ := T
    obtain ⟨hb, hs, hn1, hx⟩ := h
    have hk := bare_kind hb
    obtain ⟨k1, k2, k3⟩ := nm_spec t.kind hk.1 hk.2
    have klen := List.length_pos_iff.2 k2
    obtain ⟨tk, tn, ty, tf, tt, ta⟩ := t
    simp only at hk k1 k2 k3 hs klen
    unfold bareB at hb
    simp only at hb
    by_cases c1 : tk = 1 ∨ tk = 2
    · rw [if_pos (by omega)] at hb
      simp only [decide_eq_true_eq] at hb
      obtain ⟨rfl, rfl, b3, b4⟩ := hb
      obtain rfl := size0 b3
      obtain rfl := size0 b4
      have hpos : 0 < xs.length := by
        have : severalB tk = true := by unfold severalB; simp [c1]
        rw [this] at hs
        exact of_decide_eq_true hs.symm
      match xs, hpos, hn1, hx, hf with
      | x0 :: x1 :: xr, _, _, hx, hf =>
        obtain ⟨tl, htl⟩ : ∃ tl, Lib.joinTail (sepB pre post) (xr.map (textG pre post d)) = tl := ⟨_, rfl⟩
        have e : textG pre post (d + 1) (.node ⟨tk, 0, 0, E0, E0, ta⟩ (x0 :: x1 :: xr)) ++ q = nmK tk ++ (sgB pre post 40 ++ (textG pre post d x0 ++ (sgB pre post 44 ++ (32 :: (textG pre post d x1 ++ (tl ++ (sgB pre post 41 ++ q))))))) := by
          rw [textG_node, if_pos c1]
          simp [← htl, joinS, Lib.joinTail, sepB, List.append_assoc]
        rw [e]
        rw [e] at hf
        have g0 := hx x0 (by simp)
        have g1 := hx x1 (by simp)
        simp only [PF]
        rw [take_nm tk hk.1 hk.2 (bnd_sg hpre (by decide) _), space_sg hpre (by decide)]
        simp only
        rw [k1, if_pos c1]
        obtain ⟨f, rfl⟩ : ∃ g, f = g + 1 := ⟨f - 1, by simp only [List.length_append, List.length_cons, List.length_nil] at hf; omega⟩
        simp only [PF]
        rw [take_sign (by decide) (by decide), space_app hpost, space_text g0]
        simp only
        rw [ih x0 _ f g0 (bnd_sg hpre (by decide) _) (by simp only [List.length_append, List.length_cons, List.length_nil] at hf ⊢; omega), space_sg hpre (by decide)]
        simp only
        rw [take_sign (by decide) (by decide), space_app hpost, space_32, space_text g1]
        simp only
        have hbd : Bnd (tl ++ (sgB pre post 41 ++ q)) := by
          cases xr with
          | nil => rw [← htl]; exact bnd_sg hpre (by decide) q
          | cons y ys =>
            rw [← htl]
            have : Lib.joinTail (sepB pre post) ((y :: ys).map (textG pre post d)) ++ (sgB pre post 41 ++ q) = sgB pre post 44 ++ ([32] ++ textG pre post d y ++ (Lib.joinTail (sepB pre post) (ys.map (textG pre post d)) ++ (sgB pre post 41 ++ q))) := by simp [Lib.joinTail, sepB, List.append_assoc]
            rw [this]; exact bnd_sg hpre (by decide) _
        rw [ih x1 _ f g1 hbd (by simp only [List.length_append, List.length_cons, List.length_nil] at hf ⊢; omega)]
        simp only
        rw [← htl]
        rw [← htl] at hf
        rw [more_text hpre hpost ih xr _ q f (fun y hy => hx y (by simp [hy])) hq (by simp only [List.length_append, List.length_cons, List.length_nil] at hf ⊢; omega)]
        simp [eraseF, mkT]
    · have hx0 : xs = [] := by
        have : severalB tk = false := by unfold severalB; simp [c1]
        rw [this] at hs
        have := of_decide_eq_false hs.symm
        exact List.eq_nil_of_length_eq_zero (by omega)
      subst hx0
      rw [textG_node, if_neg c1]
      rw [textG_node, if_neg c1] at hf
      clear hf
      by_cases c3 : tk = 3 ∨ tk = 4
      · rw [if_pos c3]
        rw [if_neg (by omega), if_pos c3] at hb
        simp only [Bool.and_eq_true, decide_eq_true_eq, betwB] at hb
        obtain ⟨⟨a1, a2⟩, rfl, b3, b4⟩ := hb
        obtain rfl := size0 b3
        obtain rfl := size0 b4
        simp only [PF, List.append_assoc, List.cons_append, List.nil_append]
        rw [take_nm tk hk.1 hk.2 (bnd_sp 32 (by decide)), space_32, space_words (num_spec tn (by omega) (by omega)).2.1 (num_spec tn (by omega) (by omega)).2.2]
        simp only
        rw [k1, if_neg c1, if_pos c3, numF_itoa tn (by omega) (by omega) hq]
        simp [eraseF, mkT]
      · rw [if_neg c3]
        by_cases c5 : tk = 5
        · subst c5
          rw [if_pos rfl]
          rw [if_neg (by omega), if_neg (by omega), if_pos rfl] at hb
          simp only [Bool.and_eq_true, decide_eq_true_eq, betwB] at hb
          obtain ⟨⟨a1, a2⟩, y1, y2, b3, b4⟩ := hb
          obtain rfl := size0 b3
          obtain rfl := size0 b4
          obtain ⟨_, m2, m3⟩ := num_spec tn (by omega) (by omega)
          obtain ⟨_, n2, n3⟩ := num_spec ty (by omega) (by omega)
          simp only [PF, List.append_assoc, List.cons_append, List.nil_append]
          rw [take_nm 5 hk.1 hk.2 (bnd_sp 32 (by decide)), space_32, space_words n2 n3]
          simp only
          rw [k1, if_neg c1, if_neg c3, if_pos rfl, numF_itoa ty (by omega) (by omega) (bnd_sp 32 (by decide)), space_32, space_words (by decide) (by decide)]
          simp only
          rw [take_of (bnd_sp 32 (by decide)), space_32, space_words m2 m3]
          simp only
          rw [numF_itoa tn (by omega) (by omega) hq]
          simp [eraseF, mkT]
        · rw [if_neg c5]
          by_cases c7 : tk = 7
          · subst c7
            rw [if_pos rfl]
            rw [if_neg (by omega), if_neg (by omega), if_neg (by omega), if_pos rfl] at hb
            simp only [Bool.and_eq_true, decide_eq_true_eq, betwB, Bool.not_eq_true'] at hb
            obtain ⟨⟨⟨⟨⟨a1, a2⟩, hnm⟩, l1, l2⟩, hq34⟩, rfl⟩ := hb
            obtain ⟨p2, p3⟩ := name_spec hnm
            obtain ⟨_, m2, m3⟩ := num_spec tn (by omega) (by omega)
            simp only [PF, List.append_assoc, List.cons_append, List.nil_append]
            rw [take_nm 7 hk.1 hk.2 (bnd_sp 32 (by decide)), space_32, space_words p2 p3]
            simp only
            rw [k1, if_neg c1, if_neg c3, if_neg c5, if_pos rfl, take_in p2 p3 (bnd_sp 32 (by decide)) hnm, space_32, space_stop (.inr rfl)]
            simp only
            rw [take_quote hq34 (by simp), space_32, space_words (by decide) (by decide)]
            simp only
            rw [take_of (bnd_sp 32 (by decide)), space_32, space_words m2 m3]
            simp only
            rw [numF_itoa tn (by omega) (by omega) hq]
            simp [eraseF, mkT, bsOf_blOf]
          · rw [if_neg c7]
            have c68 : tk = 1 ∨ tk = 2 ∨ tk = 6 ∨ tk = 8 := by omega
            rw [if_pos c68] at hb
            simp only [decide_eq_true_eq] at hb
            obtain ⟨rfl, rfl, b3, b4⟩ := hb
            obtain rfl := size0 b3
            obtain rfl := size0 b4
            simp only [PF]
            rw [take_nm tk hk.1 hk.2 hq]
            simp only
            rw [k1, if_neg c1, if_neg c3, if_neg c5, if_neg c7]
            simp [eraseF, mkT]
theorem parse_text (hpre : ∀ c ∈ pre, spB c = true) (hpost : ∀ c ∈ post, spB c = true) {d : Nat} {T : Tree} (h : GoodT d T) (a : List UInt8) (ha : ∀ c ∈ a, spB c = true) : parseF (a ++ textG pre post d T) = .inl (eraseF d T) := by
  unfold parseF
  rw [space_app ha]
  have e := space_text (pre := pre) (post := post) h []
  rw [List.append_nil] at e
  rw [e]
  have := read_text hpre hpost d T [] ((a ++ textG pre post d T).length + 1) h (.inl rfl) (by simp only [List.length_append, List.length_nil]; omega)
  rw [List.append_nil] at this
  rw [this]; rfl
end
end Go.Proofs.YtgeahbmaeaoeeaaGreatDoor
namespace Go.Proofs.YtgeahbmaeaoeeaaGreatDoor
open Go.RowKit Num

theorem below_gr (B : Nat) (w : World) (hB : B ≤ w.heap.size) (k : Nat) (os : Array Obj) : Below B w (Go.Sort.grow (w.drewN k) os) := by
  refine ⟨rfl, rfl, rfl, ?_, fun i hi => ?_⟩
  · show w.heap.size ≤ (w.heap ++ os).size
    simp
  · show (w.heap ++ os)[i]? = _
    rw [Array.getElem?_append_left (by omega)]
theorem bapp (a b : List UInt8) : (⟨a.toArray⟩ : ByteArray) ++ ⟨b.toArray⟩ = ⟨(a ++ b).toArray⟩ := by
  apply ByteArray.ext
  simp [ByteArray.data_append]
/-- Go's table of the powers of ten is as the library lays it. -/
def TabOk (w : World) : Prop := Lib.TabIs Tryz.prog w "internal/strconv.uint64pow10" .u64 Lib.pow10Tab
theorem tab_below {w w' : World} (h : TabOk w) (hg : 2 < w.heap.size) (hb : Below w.heap.size w w') : TabOk w' :=
  var?_below hb (by kernel_rfl) hg h
theorem tab_lt {w : World} (h : TabOk w) : 2 < w.heap.size := by
  have e : Tryz.prog.globalNamed "internal/strconv.uint64pow10" = some 2 := by kernel_rfl
  unfold TabOk Lib.TabIs World.var? at h
  rw [e] at h
  simp only [Option.bind_some] at h
  refine Nat.not_le.1 fun hc => ?_
  rw [Array.getElem?_eq_none hc] at h
  cases h
/-- What Go's own variables hold. -/
structure LibOk (w : World) : Prop where
  tab : TabOk w
  most : ∃ m, w.cell? ⟨1, 0, none⟩ = some (.int .i64 m)
  size : 4 < w.heap.size
theorem LibOk.later {w w' : World} (h : LibOk w) (hb : Below w.heap.size w w') : LibOk w' := by
  have hs := h.size
  refine ⟨tab_below h.tab (tab_lt h.tab) hb, ?_, Nat.le_trans hs hb.size⟩
  obtain ⟨m, e⟩ := h.most; exact ⟨m, (hb.cell (p := ⟨1, 0, none⟩) (by show 1 < w.heap.size; omega)).trans e⟩
def StrBel (l : List UInt8) (w : World) (e : Ending) (w' : World) : Prop := e = .returned (.string (bsOf l)) ∧ Below w.heap.size w w'
theorem i_Itoa (n : Int) (w : World) (h : TabOk w) (h0 : -9223372036854775808 ≤ n) (h1 : n ≤ 9223372036854775807) :
    Calls Tryz.prog 122 #[.int .i64 n] w (StrBel (Lib.itoa n) w) := by
  refine (Tryz.strconv_Itoa n h0 h1 w h).mono ?_
  rintro e w' ⟨rfl, k, os, rfl⟩
  exact ⟨rfl, below_gr _ w (Nat.le_refl _) k os⟩
def AtoiPost (l : List UInt8) (w : World) (e : Ending) (w' : World) : Prop :=
  (∃ u, Lib.atoiAll l = .ok u ∧ e = .returned (.tuple #[.int .i64 u, .nilIface]) ∧ -9223372036854775808 ≤ u ∧ u ≤ 9223372036854775807 ∧ Below w.heap.size w w') ∨
  ((∀ u, Lib.atoiAll l ≠ .ok u) ∧ ∃ v tp p, e = .returned (.tuple #[.int .i64 v, .iface tp p]) ∧ Below w.heap.size w w')
theorem atoi_range (l : List UInt8) (u : Int) (h : Lib.atoiAll l = .ok u) : -9223372036854775808 ≤ u ∧ u ≤ 9223372036854775807 := by
  unfold Lib.atoiAll at h
  split at h
  · cases h
  · simp only at h
    split at h
    · cases h
    · cases h
    · split at h
      · cases h
      · split at h
        · cases h
        · injection h with h
          subst h
          split <;> omega
end Go.Proofs.YtgeahbmaeaoeeaaGreatDoor
