/- The contract of the recursion over choices. -/
import Derived.Test.YtmneokkdkgflkaaDoorHanCho
import Derived.Deep.RegionLaw
set_option linter.unusedVariables false
set_option linter.unusedSimpArgs false
namespace Go.Proofs.YtmneokkdkgflkaaDoor
open Go.RowKit Num

/-- What the recursion reads: how many, whom to ask, out of how many, itself. -/
structure ChIn (bs by_ bn bc bl bg bp bh bw be need n : Nat) (w : World) : Prop where
  s : Blk w bs 3 #[.int .i64 (need : Int)]
  y : Blk w by_ 23 #[.func (.func 70) #[] #[.pointer (some ⟨bl, 0, none⟩), .pointer (some ⟨bg, 0, none⟩), .pointer (some ⟨bp, 0, none⟩), .pointer (some ⟨bh, 0, none⟩), .pointer (some ⟨bw, 0, none⟩), .pointer (some ⟨be, 0, none⟩)]]
  m : Blk w bn 3 #[.int .i64 (n : Int)]
  c : Blk w bc 23 #[.func (.func 89) #[] #[.pointer (some ⟨bs, 0, none⟩), .pointer (some ⟨by_, 0, none⟩), .pointer (some ⟨bn, 0, none⟩), .pointer (some ⟨bc, 0, none⟩)]]
theorem ChIn.below {bs by_ bn bc bl bg bp bh bw be need n : Nat} {w w' : World} (h : ChIn bs by_ bn bc bl bg bp bh bw be need n w) (hb : Below w.heap.size w w') : ChIn bs by_ bn bc bl bg bp bh bw be need n w' :=
  ⟨h.s.below hb h.s.lt, h.y.below hb h.y.lt, h.m.below hb h.m.lt, h.c.below hb h.c.lt⟩
/-- All but the three captured results is as it was. -/
structure Far3 (bh bw be : Nat) (w w' : World) : Prop where
  size : w.heap.size ≤ w'.heap.size
  os : w'.os = w.os
  tape : w'.tape = w.tape
  output : w'.output = w.output
  block : ∀ b, b < w.heap.size → b ≠ bh → b ≠ bw → b ≠ be → w'.heap[b]? = w.heap[b]?
theorem Far3.after {bh bw be : Nat} {a b c : World} (h : Below a.heap.size a b) (k : Far3 bh bw be b c) : Far3 bh bw be a c :=
  ⟨Nat.le_trans h.size k.size, k.os.trans h.os, k.tape.trans h.tape, k.output.trans h.output, fun i hi e1 e2 e3 => (k.block i (Nat.lt_of_lt_of_le hi h.size) e1 e2 e3).trans (h.block i hi)⟩
theorem RobYes.mono {p bh bw be base base' : Nat} {l : List Sh} {ns : List Nat} {w : World} (h : RobYes p bh bw be base l ns w) (hb : base' ≤ base) : RobYes p bh bw be base' l ns w :=
  ⟨h.hn, h.ls.imp fun v hv => ⟨hv.1, own_mono hv.2 hb⟩, h.er⟩
def ChPost (p bh bw be : Nat) (l : List Sh) (r : Option (List Nat)) (w : World) (e : Ending) (w' : World) : Prop :=
  match r with
  | some ns => e = .returned (.bool false) ∧ RobYes p bh bw be w.heap.size l ns w' ∧ Far3 bh bw be w w'
  | none => e = .returned (.bool true) ∧ Below w.heap.size w w'
/-- Numbers below n, each greater than the one before. -/
def Asc (n : Nat) (ch : List Nat) : Prop := (∀ k, k < ch.length → ch.getD k 0 < n) ∧ ∀ i j, i < j → j < ch.length → ch.getD i 0 < ch.getD j 0
theorem Asc.ne {n : Nat} {ch : List Nat} (h : Asc n ch) : ∀ i j, i < ch.length → j < ch.length → i ≠ j → ch.getD i 0 ≠ ch.getD j 0 := fun i j hi hj hne => by
  rcases Nat.lt_or_ge i j with h1 | h1
  · have := h.2 i j h1 hj; omega
  · have := h.2 j i (by omega) hi; omega
theorem nextOf_eq (ch : List Nat) : nextOf ch = if ch.length = 0 then 0 else ch.getD (ch.length - 1) 0 + 1 := by
  unfold nextOf
  rw [List.getLast?_eq_getElem?]
  cases ch with
  | nil => rfl
  | cons a l =>
    rw [List.getElem?_eq_getElem (by simp), if_neg (by simp), List.getD_eq_getElem?_getD, List.getElem?_eq_getElem (by simp)]; rfl
theorem Asc.snoc {n i : Nat} {ch : List Nat} (h : Asc n ch) (h1 : nextOf ch ≤ i) (h2 : i < n) : Asc n (ch ++ [i]) := by
  have key : ∀ k, k < ch.length → (ch ++ [i]).getD k 0 = ch.getD k 0 := fun k hk => by
    rw [List.getD_eq_getElem?_getD, List.getElem?_append_left hk, ← List.getD_eq_getElem?_getD]
  have last : (ch ++ [i]).getD ch.length 0 = i := by
    rw [List.getD_eq_getElem?_getD, List.getElem?_append_right (Nat.le_refl _)]; simp
  have hlt : ∀ k, k < ch.length → ch.getD k 0 < i := fun k hk => by
    rw [nextOf_eq, if_neg (by omega)] at h1
    rcases Nat.lt_or_ge k (ch.length - 1) with h3 | h3
    · have := h.2 k (ch.length - 1) h3 (by omega); omega
    · have : k = ch.length - 1 := by omega
      subst this; omega
  refine ⟨fun k hk => ?_, fun a b hab hb => ?_⟩
  · rw [List.length_append] at hk
    rcases Nat.lt_or_ge k ch.length with h3 | h3
    · rw [key k h3]; exact h.1 k h3
    · have : k = ch.length := by simp at hk; omega
      subst this; rw [last]; exact h2
  · rw [List.length_append] at hb
    rcases Nat.lt_or_ge b ch.length with h3 | h3
    · rw [key a (by omega), key b h3]; exact h.2 a b hab h3
    · have : b = ch.length := by simp at hb; omega
      subst this; rw [last, key a (by omega)]; exact hlt a (by omega)

set_option maxRecDepth 100000 in
set_option maxHeartbeats 4000000 in
theorem h_cho0 (p need hold n bs by_ bn bc bl bg bp bh bw be : Nat) (vl v : Value) (l : List Sh) (ch : List Nat) (S : Nat → Prop) (w : World) (hp : SPrm p) (hc : ChIn bs by_ bn bc bl bg bp bh bw be need n w) (hin : RobIn p need hold bl bg bp vl l S w) (hno : RobNo bh bw be w)
    (hv : IntsAt w (Old w) v (ch.map Int.ofNat)) (h0 : 0 < need) (hl : ch.length = need) (hnl : need ≤ l.length) (hn : n = l.length) (l1 : l.length ≤ 9) (ha : Asc n ch)
    (hol : PartsOk p hold l) (hh : hold < p) (d1 : bh ≠ bw) (d2 : bh ≠ be) (d3 : bw ≠ be) :
    Calls Tryd.prog 89 #[v, .pointer (some ⟨bs, 0, none⟩), .pointer (some ⟨by_, 0, none⟩), .pointer (some ⟨bn, 0, none⟩), .pointer (some ⟨bc, 0, none⟩)] w (ChPost p bh bw be l (rob (small p need l) n 0 ch) w) := by
  subst hn
  have hr := h_rob1 p need hold bl bg bp bh bw be vl v l ch S (Old w) w hp hin hno hv (fun b hb => hb) (by omega) hl hnl l1 (fun k hk => ha.1 k hk) ha.ne hol hh d1 d2 d3
  obtain ⟨A, k, c, rfl, hk, hkc, -⟩ := id hv
  rw [List.length_map, hl] at hk
  subst hk
  have c0 : w.cell? ⟨bs, 0, none⟩ = some (.int .i64 (k : Int)) := hc.s.cell 0
  have c1 := hc.y.cell 0
  have HL := Lib.hid hl
  clear hl hin hno hv hc ha hol hnl
  rcases (show small p k l ch = true ∨ small p k l ch = false by cases small p k l ch <;> simp) with hs | hs
  · have hr2 : Calls Tryd.prog 70 #[.slice A k c, .pointer (some ⟨bl, 0, none⟩), .pointer (some ⟨bg, 0, none⟩), .pointer (some ⟨bp, 0, none⟩), .pointer (some ⟨bh, 0, none⟩), .pointer (some ⟨bw, 0, none⟩), .pointer (some ⟨be, 0, none⟩)] w
        fun e w' => e = .returned (.bool false) ∧ RobYes p bh bw be w.heap.size l ch w' ∧ Far3 bh bw be w w' := hr.mono fun e w' h => by
      unfold Rob1Post at h
      rw [if_pos hs] at h
      exact ⟨h.1, h.2.1, h.2.2.1, h.2.2.2.1, h.2.2.2.2.1, h.2.2.2.2.2.1, h.2.2.2.2.2.2⟩
    have hrob : rob (small p k l) l.length 0 ch = some ch := by unfold rob; rw [if_pos hs]
    rw [hrob]
    have HR := Lib.hid hr2
    clear hr hr2 hs hrob
    go_enter Tryd.func89, Tryd.ntmps89
    go_wp2_with (go_at_call 70; refine HR.out.mono ?_; rintro e w1 ⟨rfl, hy, hf⟩)
    go_ret
    exact ⟨rfl, hy, hf⟩
  · have hr2 : Calls Tryd.prog 70 #[.slice A k c, .pointer (some ⟨bl, 0, none⟩), .pointer (some ⟨bg, 0, none⟩), .pointer (some ⟨bp, 0, none⟩), .pointer (some ⟨bh, 0, none⟩), .pointer (some ⟨bw, 0, none⟩), .pointer (some ⟨be, 0, none⟩)] w
        fun e w' => e = .returned (.bool true) ∧ Below w.heap.size w w' := hr.mono fun e w' h => by
      unfold Rob1Post at h
      rw [if_neg (by rw [hs]; simp)] at h
      exact h
    have hrob : rob (small p k l) l.length 0 ch = none := by unfold rob; rw [if_neg (by rw [hs]; simp)]
    rw [hrob]
    have HR := Lib.hid hr2
    clear hr hr2 hs hrob
    go_enter Tryd.func89, Tryd.ntmps89
    go_wp2_with (go_at_call 70; refine HR.out.mono ?_; rintro e w1 ⟨rfl, hb⟩)
    go_ret
    exact ⟨rfl, hb⟩
end Go.Proofs.YtmneokkdkgflkaaDoor
