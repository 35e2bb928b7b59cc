/- Contracts: what is wrong with shares (nothing); the secret and the holders that lie. -/
import Derived.Test.YtjfphobfikadlaaDoorN26
import Derived.Test.YtjfphobfikadlaaDoorN16
import Derived.Lib.SlKeysI
import Derived.Test.YtjfphobfikadlaaDoorN17
import Derived.Sort.OwnSortedInts
import Derived.BigQuiet
set_option linter.unusedVariables false
set_option linter.unusedSimpArgs false
namespace Go.Proofs.YtjfphobfikadlaaDoor
open Go.RowKit Num

/-- The holders some of whose values differ. -/
def Bad (p : Nat) (l : List Sh) (F : Nat → List Int) (m : Nat) (h : Int) : Prop := ∃ i k, i < m ∧ k < l.length ∧ (shAt l k).1 = h ∧ Num.ev (F i) h % p ≠ (shAt l k).2.getD i 0
/-- What is said of shares some of which are wrong. -/
def RobPost (p need room m : Nat) (l : List Sh) (w : World) (e : Ending) (w' : World) : Prop :=
  ((e = .returned (.tuple #[.slice none 0 0, .slice none 0 0, .int .i64 9]) ∧ ∃ i, i < m ∧ ∀ F, ¬ oneP p need room l.length (hsOf l) (colY l i) F) ∨
   ∃ (F : Nat → List Int) (B : List Int), (∀ i, i < m → oneP p need room l.length (hsOf l) (colY l i) (F i)) ∧ B.Pairwise (· < ·) ∧ (∀ a, a ∈ B ↔ Bad p l F m a) ∧
     ((room < B.length ∧ e = .returned (.tuple #[.slice none 0 0, .slice none 0 0, .int .i64 9])) ∨
      (B.length ≤ room ∧ ∃ vs vl, e = .returned (.tuple #[vs, vl, .int .i64 0]) ∧ OwnI w' w.heap.size vs ((List.range m).map fun i => Num.ev (F i) 0 % p) ∧ OwnI w' w.heap.size vl B))) ∧ Below w.heap.size w w'

theorem agr_from {p : Int} {G : List Int} {xs ys : Nat → Int} {bad : Nat → Bool} : ∀ n, (∀ k, k < n → bad k = false → Num.ev G (xs k) % p = ys k) → n ≤ agr p G xs ys n + ((List.range n).filter bad).length := by
  intro n
  induction n with
  | zero => intro _; omega
  | succ n ih =>
    intro h
    have h1 := ih fun k a b => h k (by omega) b
    rw [List.range_succ, List.filter_append, List.length_append]
    show n + 1 ≤ agr p G xs ys n + _ + _
    rcases hb : bad n with _ | _
    · rw [if_pos (h n (by omega) hb)]; omega
    · simp [hb]; omega
theorem asc_nodup {l : List Int} (h : l.Pairwise (· < ·)) : l.Nodup := by
  rw [List.nodup_iff_pairwise_ne]
  exact h.imp fun h => by omega
theorem nodup_len : ∀ l m : List Int, l.Nodup → (∀ a ∈ l, a ∈ m) → l.length ≤ m.length := by
  intro l
  induction l with
  | nil => intro m _ _; simp
  | cons a l ih =>
    intro m hn h
    rw [List.nodup_cons] at hn
    have ha := h a (by simp)
    have := ih (m.erase a) hn.2 fun b hb => (List.mem_erase_of_ne (fun e : b = a => hn.1 (by rw [← e]; exact hb))).2 (h b (by simp [hb]))
    rw [List.length_erase_of_mem ha] at this
    have := List.length_pos_of_mem ha
    simp; omega
theorem asc_same : ∀ xs ys : List Int, xs.Pairwise (· < ·) → ys.Pairwise (· < ·) → (∀ a, a ∈ xs ↔ a ∈ ys) → xs = ys := by
  intro xs
  induction xs with
  | nil =>
    intro ys _ _ h
    cases ys with
    | nil => rfl
    | cons b ys => exact absurd ((h b).2 (by simp)) (by simp)
  | cons a xs ih =>
    intro ys hx hy h
    cases ys with
    | nil => exact absurd ((h a).1 (by simp)) (by simp)
    | cons b ys =>
      rw [List.pairwise_cons] at hx hy
      have hab : a = b := by
        rcases List.mem_cons.1 ((h a).1 (by simp)) with e | e
        · exact e
        · rcases List.mem_cons.1 ((h b).2 (by simp)) with e2 | e2
          · exact e2.symm
          · have := hy.1 a e; have := hx.1 b e2; omega
      subst hab
      rw [ih ys hx.2 hy.2 fun c => ⟨fun hc => ?_, fun hc => ?_⟩]
      · rcases List.mem_cons.1 ((h c).1 (by simp [hc])) with e | e
        · have := hx.1 c hc; omega
        · exact e
      · rcases List.mem_cons.1 ((h c).2 (by simp [hc])) with e | e
        · have := hy.1 c hc; omega
        · exact e
/-- Shares of polynomials, some of which are wrong at the first place. -/
structure LiedSh (p need m : Nat) (bad : Nat → Bool) (G : Nat → List Int) (l : List Sh) : Prop where
  can : ∀ i, i < m → Num.Can p (G i) ∧ (G i).length ≤ need
  val : ∀ i k, i < m → k < l.length → bad k = false → Num.ev (G i) (shAt l k).1 % p = (shAt l k).2.getD i 0
  wrong : ∀ k, k < l.length → bad k = true → Num.ev (G 0) (shAt l k).1 % p ≠ (shAt l k).2.getD 0 0
section
variable {p hold need m room : Nat} {bad : Nat → Bool} {G : Nat → List Int} {l : List Sh}
theorem LiedSh.one (h : LiedSh p need m bad G l) (hr : ((List.range l.length).filter bad).length ≤ room) (i : Nat) (hi : i < m) : oneP p need room l.length (hsOf l) (colY l i) (G i) := by
  refine ⟨(h.can i hi).1, (h.can i hi).2, ?_⟩
  have := agr_from (p := (p : Int)) (G := G i) (xs := fOf (hsOf l)) (ys := fOf (colY l i)) (bad := bad) l.length fun k a b => by
    rw [hsOf_get l k a]
    show _ = (colY l i).getD k 0
    rw [colY_get l i k a]
    exact h.val i k hi a b
  omega
theorem LiedSh.badIff (h : LiedSh p need m bad G l) (hg : GoodSh p hold m l) (hm : 0 < m) (a : Int) : Bad p l G m a ↔ ∃ k, k < l.length ∧ bad k = true ∧ (shAt l k).1 = a := by
  constructor
  · rintro ⟨i, k, hi, hk, rfl, hne⟩
    refine ⟨k, hk, ?_, rfl⟩
    rcases hb : bad k with _ | _
    · exact absurd (h.val i k hi hk hb) hne
    · rfl
  · rintro ⟨k, hk, hl, rfl⟩
    exact ⟨0, k, hm, hk, rfl, h.wrong k hk hl⟩
/-- Few enough wrong shares are found, and change nothing. -/
theorem LiedSh.found (h : LiedSh p need m bad G l) (hg : GoodSh p hold m l) (hp : Prm p) (hh : hold < p) (hm : 0 < m) (hr : ((List.range l.length).filter bad).length ≤ room) (hn : need + 2 * room ≤ l.length)
    {w w' : World} {e : Ending} (hr' : RobPost p need room m l w e w') {W : List Int} (hW : W.Pairwise (· < ·)) (hWm : ∀ a, a ∈ W ↔ ∃ k, k < l.length ∧ bad k = true ∧ (shAt l k).1 = a) :
    ∃ vs vl, e = .returned (.tuple #[vs, vl, .int .i64 0]) ∧ OwnI w' w.heap.size vs ((List.range m).map fun i => Num.ev (G i) 0 % p) ∧ OwnI w' w.heap.size vl W := by
  rcases hr'.1 with ⟨_, i, hi, hno⟩ | ⟨F, B, hF, hB, hBm, hres⟩
  · exact absurd (h.one hr i hi) (hno _)
  have hA : ApartN p (fOf (hsOf l)) l.length := by have := hg.apart hh; rwa [hsOf_len] at this
  have hFG : ∀ i, i < m → F i = G i := fun i hi => only_one hp hn hA (hF i hi).1 (h.one hr i hi).1 (hF i hi).2.1 (h.one hr i hi).2.1 (hF i hi).2.2 (h.one hr i hi).2.2
  have hBad : ∀ a, Bad p l F m a ↔ Bad p l G m a := fun a => by
    unfold Bad
    constructor
    · rintro ⟨i, k, hi, r⟩; exact ⟨i, k, hi, by rw [← hFG i hi]; exact r⟩
    · rintro ⟨i, k, hi, r⟩; exact ⟨i, k, hi, by rw [hFG i hi]; exact r⟩
  have hBW : B = W := asc_same _ _ hB hW fun a => by rw [hBm, hBad, h.badIff hg hm, hWm]
  subst hBW
  have hlen : B.length ≤ room := by
    refine Nat.le_trans (nodup_len B (((List.range l.length).filter bad).map fun k => (shAt l k).1) (asc_nodup hB) fun a ha => ?_) (by simpa using hr)
    obtain ⟨k, h1, h2, h3⟩ := (hWm a).1 ha
    exact List.mem_map.2 ⟨k, List.mem_filter.2 ⟨List.mem_range.2 h1, h2⟩, h3⟩
  rcases hres with ⟨h1, _⟩ | ⟨_, vs, vl, he, hs, hl⟩
  · omega
  · refine ⟨vs, vl, he, ?_, hl⟩
    have : ((List.range m).map fun i => Num.ev (F i) 0 % p) = (List.range m).map fun i => Num.ev (G i) 0 % p := List.map_congr_left fun i hi => by rw [hFG i (List.mem_range.1 hi)]
    rwa [this] at hs
end
end Go.Proofs.YtjfphobfikadlaaDoor
namespace Go.Proofs.YtjfphobfikadlaaDoor
open Go.RowKit Num Go.Maps Go.Sort

def srt (xs : List Int) : List Int := xs.mergeSort fun x y => decide (x ≤ y)
theorem srt_len (xs : List Int) : (srt xs).length = xs.length := List.length_mergeSort xs
def SortPost (B n : Nat) (v : Value) (xs : List Int) (w : World) (e : Ending) (w' : World) : Prop :=
  e = .returned (.tuple #[]) ∧ w'.ownsRow B 3 1 v n ((srt xs).map (Value.int .i64)) ∧ w.grownBy w' v.ownBlock
def IntB0 (w : World) (e : Ending) (w' : World) : Prop := e = .returned (.int .i64 0) ∧ Below w.heap.size w w'
set_option maxHeartbeats 1000000 in
theorem s_check (p need hold m : Nat) (v : Value) (L : List Sh) (S : Nat → Prop) (w : World) (hw : BasesOk w) (hp : Prm p) (h2 : p ≤ 1073741824) (n1 : 1 ≤ need) (n2 : need ≤ hold) (n3 : hold ≤ 16) (n4 : hold < p)
    (hv : ShAt w S v L) (hS : ∀ b, S b → b < w.heap.size) (hnl : need ≤ L.length) (hl : L.length ≤ 16) (hm : m ≤ 2048) (ho : GoodSh p hold m L) :
    Calls Tryd.prog 45 #[.agg #[.int .i64 (p : Int), .int .i64 (need : Int), .int .i64 (hold : Int)], v] w (IntB0 w) := by
  obtain ⟨A, n, c, rfl, hn, hnc, hc⟩ := id hv
  have t1 : decide ((n : Int) < (need : Int)) = false := decide_eq_false (by omega)
  have t1' : decide (n < need) = false := decide_eq_false (by omega)
  have hval := s_Valid p need hold _ (hw.alloc (.cells #[.int .i64 (p : Int), .int .i64 (need : Int), .int .i64 (hold : Int)] 28)) hp h2 n1 n2 n3 n4
  have hgd := fun (W : World) (hb : Below w.heap.size w W) => s_Good p need hold m (.slice A n c) L S W n3 (hv.keep fun b hb' => hb.block b (hS b hb')) (fun b hb' => Nat.lt_of_lt_of_le (hS b hb') hb.size) hl hm ho
  have kp : Blk (w.alloc (.cells #[.int .i64 (p : Int), .int .i64 (need : Int), .int .i64 (hold : Int)] 28)) w.heap.size 28 #[.int .i64 (p : Int), .int .i64 (need : Int), .int .i64 (hold : Int)] := Blk.new w _ _
  have hb0 : Below w.heap.size w (w.alloc (.cells #[.int .i64 (p : Int), .int .i64 (need : Int), .int .i64 (hold : Int)] 28)) := (Below.refl _ _).alloc (Nat.le_refl _) _
  have HVAL := Lib.hid hval
  have HGD := Lib.hid hgd
  have KP := Lib.hid kp
  have HB0 := Lib.hid hb0
  clear hw hv hn hc hp ho hval hgd kp hb0
  go_enter Tryd.func45, Tryd.ntmps45
  go_wp2_with fail
  refine HVAL.out.mono ?_
  rintro e w2 ⟨rfl, hb2⟩
  have kp2 := KP.out.below hb2 KP.out.lt
  have hb := HB0.out.trans (hb2.mono HB0.out.size)
  have r0 : w2.cell? ⟨w.heap.size, 0, none⟩ = some (.int .i64 (p : Int)) := kp2.cell 0
  have r1 : w2.cell? ⟨w.heap.size, 1, none⟩ = some (.int .i64 (need : Int)) := kp2.cell 1
  have r2 : w2.cell? ⟨w.heap.size, 2, none⟩ = some (.int .i64 (hold : Int)) := kp2.cell 2
  have hg := HGD.out w2 hb
  have HG := Lib.hid hg
  have KP2 := Lib.hid kp2
  have HB := Lib.hid hb
  clear hg kp2 hb hb2
  go_wp2_with fail
  refine HG.out.mono ?_
  rintro e w3 ⟨rfl, hb3⟩
  have kp3 := KP2.out.below hb3 KP2.out.lt
  have hb := HB.out.trans (hb3.mono HB.out.size)
  have s1 : w3.cell? ⟨w.heap.size, 1, none⟩ = some (.int .i64 (need : Int)) := kp3.cell 1
  have HB3 := Lib.hid hb
  clear kp3 hb hb3 r0 r1 r2
  go_wp2_with fail
  go_ret
  exact ⟨rfl, HB3.out⟩
set_option maxHeartbeats 1000000 in
theorem s_Check (p need hold m : Nat) (v : Value) (L : List Sh) (S : Nat → Prop) (w : World) (hw : BasesOk w) (hp : Prm p) (h2 : p ≤ 1073741824) (n1 : 1 ≤ need) (n2 : need ≤ hold) (n3 : hold ≤ 16) (n4 : hold < p)
    (hv : ShAt w S v L) (hS : ∀ b, S b → b < w.heap.size) (hnl : need ≤ L.length) (hl : L.length ≤ 16) (hm : m ≤ 2048) (ho : GoodSh p hold m L) :
    Calls Tryd.prog 29 #[.agg #[.int .i64 (p : Int), .int .i64 (need : Int), .int .i64 (hold : Int)], v] w (IntB0 w) := by
  obtain ⟨A, n, c, rfl, hn, hnc, hc⟩ := id hv
  have hb0 : Below w.heap.size w (w.alloc (.cells #[.int .i64 (p : Int), .int .i64 (need : Int), .int .i64 (hold : Int)] 28)) := (Below.refl _ _).alloc (Nat.le_refl _) _
  have h := s_check p need hold m (.slice A n c) L S _ (hw.alloc (.cells #[.int .i64 (p : Int), .int .i64 (need : Int), .int .i64 (hold : Int)] 28)) hp h2 n1 n2 n3 n4 (hv.keep fun b hb' => hb0.block b (hS b hb')) (fun b hb' => Nat.lt_of_lt_of_le (hS b hb') hb0.size) hnl hl hm ho
  have H := Lib.hid h
  have HB0 := Lib.hid hb0
  clear hw hv hn hc hp ho h hb0
  go_enter Tryd.func29, Tryd.ntmps29
  go_wp2_with fail
  refine H.out.mono ?_
  rintro e w2 ⟨rfl, hb2⟩
  have hb := HB0.out.trans (hb2.mono HB0.out.size)
  have HB := Lib.hid hb
  clear hb hb2
  go_wp2_with fail
  go_ret
  exact ⟨rfl, HB.out⟩

/-- The holders that are wrong among the first k at one place. -/
def BadAt (p : Nat) (l : List Sh) (f : List Int) (i k : Nat) (h : Int) : Prop := ∃ j, j < k ∧ (shAt l j).1 = h ∧ Num.ev f h % p ≠ (shAt l j).2.getD i 0
theorem Bad.succ {p : Nat} {l : List Sh} {F : Nat → List Int} {f : List Int} {i : Nat} {h : Int} : Bad p l (fun j => if j = i then f else F j) (i + 1) h ↔ Bad p l F i h ∨ BadAt p l f i l.length h := by
  constructor
  · rintro ⟨a, k, ha, hk, hh, hne⟩
    dsimp only at hne
    by_cases e : a = i
    · subst e
      rw [if_pos rfl] at hne
      exact .inr ⟨k, hk, hh, hne⟩
    · rw [if_neg e] at hne
      exact .inl ⟨a, k, by omega, hk, hh, hne⟩
  · rintro (⟨a, k, ha, hk, hh, hne⟩ | ⟨k, hk, hh, hne⟩)
    · exact ⟨a, k, by omega, hk, hh, by dsimp only; rw [if_neg (by omega)]; exact hne⟩
    · exact ⟨i, k, by omega, hk, hh, by dsimp only; rw [if_pos rfl]; exact hne⟩
theorem BadAt.yes {p : Nat} {l : List Sh} {f : List Int} {i k : Nat} {x y : Int} (hx : (shAt l k).1 = x) (hne : Num.ev f x % p ≠ (shAt l k).2.getD i 0) : BadAt p l f i (k + 1) y ↔ BadAt p l f i k y ∨ y = x := by
  constructor
  · rintro ⟨j, hj, hh, hn⟩
    rcases Nat.lt_or_ge j k with h | h
    · exact .inl ⟨j, h, hh, hn⟩
    · have : j = k := by omega
      subst this; exact .inr (hh.symm.trans hx)
  · rintro (⟨j, hj, hh, hn⟩ | rfl)
    · exact ⟨j, by omega, hh, hn⟩
    · exact ⟨k, by omega, hx, hne⟩
theorem BadAt.no {p : Nat} {l : List Sh} {f : List Int} {i k : Nat} {x y : Int} (hx : (shAt l k).1 = x) (he : Num.ev f x % p = (shAt l k).2.getD i 0) : BadAt p l f i (k + 1) y ↔ BadAt p l f i k y := by
  constructor
  · rintro ⟨j, hj, hh, hn⟩
    rcases Nat.lt_or_ge j k with h | h
    · exact ⟨j, h, hh, hn⟩
    · have : j = k := by omega
      subst this
      exact absurd he (by rw [← hx] ; rw [hh] ; rw [hh] at hx; exact hn)
  · rintro ⟨j, hj, hh, hn⟩; exact ⟨j, by omega, hh, hn⟩
theorem srt_asc {ss : List Int} (hn : ss.Nodup) : (srt ss).Pairwise (· < ·) := by
  have hs : (srt ss).Pairwise (fun a b => decide (a ≤ b) = true) := List.pairwise_mergeSort (fun a b c h1 h2 => by simp at *; omega) (fun a b => by simp; omega) _
  have hn : (srt ss).Nodup := by
    unfold srt
    rw [(List.mergeSort_perm _ _).nodup_iff]
    exact hn
  rw [List.nodup_iff_pairwise_ne, List.pairwise_iff_getElem] at hn
  rw [List.pairwise_iff_getElem] at hs ⊢
  intro i j hi hj hij
  have h1 := hs i j hi hj hij
  have h2 := hn i j hi hj hij
  simp only [decide_eq_true_eq] at h1
  omega
theorem mem_srt {ss : List Int} {a : Int} : a ∈ srt ss ↔ a ∈ ss := by unfold srt; exact (List.mergeSort_perm _ _).mem_iff
end Go.Proofs.YtjfphobfikadlaaDoor
