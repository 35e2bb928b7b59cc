/- The contract of going through the choices, and of the handle that most parts give. -/
import Derived.Test.YtmneokkdkgflkaaDoorHanCho3
import Derived.Test.YtmneokkdkgflkaaDoorHanLog
set_option linter.unusedVariables false
set_option linter.unusedSimpArgs false
namespace Go.Proofs.YtmneokkdkgflkaaDoor
open Go.RowKit Num

theorem h_cho (p need hold n bs by_ bn bc bl bg bp bh bw be : Nat) (vl : Value) (l : List Sh) (S : Nat → Prop) (hp : SPrm p) (h0 : 0 < need) (hnl : need ≤ l.length) (hn : n = l.length) (l1 : l.length ≤ 9)
    (hol : PartsOk p hold l) (hh : hold < p) (d1 : bh ≠ bw) (d2 : bh ≠ be) (d3 : bw ≠ be) : ∀ (d : Nat) (ch : List Nat) (v : Value) (w : World), 1 ≤ ch.length → ch.length + d = need → Asc n ch →
    ChIn bs by_ bn bc bl bg bp bh bw be need n w → RobIn p need hold bl bg bp vl l S w → RobNo bh bw be w → IntsAt w (Old w) v (ch.map Int.ofNat) →
    Calls Tryd.prog 89 #[v, .pointer (some ⟨bs, 0, none⟩), .pointer (some ⟨by_, 0, none⟩), .pointer (some ⟨bn, 0, none⟩), .pointer (some ⟨bc, 0, none⟩)] w (ChPost p bh bw be l (rob (small p need l) n d ch) w) := by
  intro d
  induction d with
  | zero =>
    intro ch v w h1 hl ha hc hin hno hv
    exact h_cho0 p need hold n bs by_ bn bc bl bg bp bh bw be vl v l ch S w hp hc hin hno hv h0 hl hnl hn l1 ha hol hh d1 d2 d3
  | succ d ih =>
    intro ch v w h1 hl ha hc hin hno hv
    refine h_choS p need n d bs by_ bn bc bl bg bp bh bw be v l ch w hc hv hl h1 (by omega) (by omega) ha fun j v' W hb hj1 hj2 hv' => ?_
    exact ih (ch ++ [j]) v' W (by simp) (by simp; omega) (ha.snoc hj1 hj2) (hc.below hb) (hin.below hb) (hno.below hb) hv'
theorem asc_nil (n : Nat) : Asc n [] := ⟨fun k hk => absurd hk (by simp), fun i j _ hj => absurd hj (by simp)⟩
theorem h_choN (p need hold n bs by_ bn bc bl bg bp bh bw be : Nat) (vl : Value) (l : List Sh) (S : Nat → Prop) (w : World) (hp : SPrm p) (h0 : 0 < need) (hnl : need ≤ l.length) (hn : n = l.length) (l1 : l.length ≤ 9)
    (hol : PartsOk p hold l) (hh : hold < p) (d1 : bh ≠ bw) (d2 : bh ≠ be) (d3 : bw ≠ be) (hc : ChIn bs by_ bn bc bl bg bp bh bw be need n w) (hin : RobIn p need hold bl bg bp vl l S w) (hno : RobNo bh bw be w) :
    Calls Tryd.prog 89 #[.slice none 0 0, .pointer (some ⟨bs, 0, none⟩), .pointer (some ⟨by_, 0, none⟩), .pointer (some ⟨bn, 0, none⟩), .pointer (some ⟨bc, 0, none⟩)] w (ChPost p bh bw be l (rob (small p need l) n need []) w) := by
  obtain ⟨d, rfl⟩ : ∃ d, need = d + 1 := ⟨need - 1, by omega⟩
  refine h_choZ p (d + 1) n d bs by_ bn bc bl bg bp bh bw be l w hc rfl (by omega) (by omega) fun j v' W hb hj1 hj2 hv' => ?_
  exact h_cho p (d + 1) hold n bs by_ bn bc bl bg bp bh bw be vl l S hp h0 hnl hn l1 hol hh d1 d2 d3 d ([] ++ [j]) v' W (by simp) (by simp; omega) ((asc_nil n).snoc hj1 hj2) (hc.below hb) (hin.below hb) (hno.below hb) hv'
/-- What 'choices' leaves. -/
def ChsPost (p bh bw be : Nat) (l : List Sh) (r : Option (List Nat)) (w : World) (e : Ending) (w' : World) : Prop :=
  match r with
  | some ns => e = .returned (.tuple #[]) ∧ RobYes p bh bw be w.heap.size l ns w' ∧ Far3 bh bw be w w'
  | none => e = .returned (.tuple #[]) ∧ Below w.heap.size w w'
set_option maxRecDepth 100000 in
set_option maxHeartbeats 4000000 in
theorem h_choices (p need hold n bl bg bp bh bw be : Nat) (vl : Value) (l : List Sh) (ns : List Nat) (S : Nat → Prop) (w : World) (hp : SPrm p) (h0 : 0 < need) (hnl : need ≤ l.length) (hn : n = l.length) (l1 : l.length ≤ 9)
    (hol : PartsOk p hold l) (hh : hold < p) (d1 : bh ≠ bw) (d2 : bh ≠ be) (d3 : bw ≠ be) (hin : RobIn p need hold bl bg bp vl l S w) (hno : RobNo bh bw be w) (hr : rob (small p need l) n need [] = some ns) :
    Calls Tryd.prog 69 #[.int .i64 (n : Int), .int .i64 (need : Int), .func (.func 70) #[] #[.pointer (some ⟨bl, 0, none⟩), .pointer (some ⟨bg, 0, none⟩), .pointer (some ⟨bp, 0, none⟩), .pointer (some ⟨bh, 0, none⟩), .pointer (some ⟨bw, 0, none⟩), .pointer (some ⟨be, 0, none⟩)]] w (ChsPost p bh bw be l (some ns) w) := by
  have key : ∀ W, Below w.heap.size w W → ∀ bs by_ bn bc, ChIn bs by_ bn bc bl bg bp bh bw be need n W →
      Calls Tryd.prog 89 #[.slice none 0 0, .pointer (some ⟨bs, 0, none⟩), .pointer (some ⟨by_, 0, none⟩), .pointer (some ⟨bn, 0, none⟩), .pointer (some ⟨bc, 0, none⟩)] W fun e w' => e = .returned (.bool false) ∧ RobYes p bh bw be w.heap.size l ns w' ∧ Far3 bh bw be w w' := fun W hb bs by_ bn bc hc => by
    have := h_choN p need hold n bs by_ bn bc bl bg bp bh bw be vl l S W hp h0 hnl hn l1 hol hh d1 d2 d3 hc (hin.below hb) (hno.below hb)
    rw [hr] at this
    exact this.mono fun e w' h => ⟨h.1, h.2.1.mono hb.size, Far3.after hb h.2.2⟩
  have KEY := Lib.hid key
  clear key hr hno hin hol hn hnl h0 l1 hh
  go_enter Tryd.func69, Tryd.ntmps69
  have b0 : Blk ((((w.alloc (.cells #[.int .i64 (n : Int)] 3)).alloc (.cells #[.int .i64 (need : Int)] 3)).alloc (.cells #[.func (.func 70) #[] #[.pointer (some ⟨bl, 0, none⟩), .pointer (some ⟨bg, 0, none⟩), .pointer (some ⟨bp, 0, none⟩), .pointer (some ⟨bh, 0, none⟩), .pointer (some ⟨bw, 0, none⟩), .pointer (some ⟨be, 0, none⟩)]] 23)).alloc (.cells #[.nilFunc] 23)) w.heap.size 3 #[.int .i64 (n : Int)] := (((Blk.new w _ _).alloc _).alloc _).alloc _
  have b1 : Blk ((((w.alloc (.cells #[.int .i64 (n : Int)] 3)).alloc (.cells #[.int .i64 (need : Int)] 3)).alloc (.cells #[.func (.func 70) #[] #[.pointer (some ⟨bl, 0, none⟩), .pointer (some ⟨bg, 0, none⟩), .pointer (some ⟨bp, 0, none⟩), .pointer (some ⟨bh, 0, none⟩), .pointer (some ⟨bw, 0, none⟩), .pointer (some ⟨be, 0, none⟩)]] 23)).alloc (.cells #[.nilFunc] 23)) (w.heap.size + 1) 3 #[.int .i64 (need : Int)] := by
    have := Blk.new (w.alloc (.cells #[.int .i64 (n : Int)] 3)) 3 #[.int .i64 (need : Int)]
    rw [World.size_alloc] at this
    exact (this.alloc _).alloc _
  have b2 : Blk ((((w.alloc (.cells #[.int .i64 (n : Int)] 3)).alloc (.cells #[.int .i64 (need : Int)] 3)).alloc (.cells #[.func (.func 70) #[] #[.pointer (some ⟨bl, 0, none⟩), .pointer (some ⟨bg, 0, none⟩), .pointer (some ⟨bp, 0, none⟩), .pointer (some ⟨bh, 0, none⟩), .pointer (some ⟨bw, 0, none⟩), .pointer (some ⟨be, 0, none⟩)]] 23)).alloc (.cells #[.nilFunc] 23)) (w.heap.size + 1 + 1) 23 #[.func (.func 70) #[] #[.pointer (some ⟨bl, 0, none⟩), .pointer (some ⟨bg, 0, none⟩), .pointer (some ⟨bp, 0, none⟩), .pointer (some ⟨bh, 0, none⟩), .pointer (some ⟨bw, 0, none⟩), .pointer (some ⟨be, 0, none⟩)]] := by
    have := Blk.new ((w.alloc (.cells #[.int .i64 (n : Int)] 3)).alloc (.cells #[.int .i64 (need : Int)] 3)) 23 #[.func (.func 70) #[] #[.pointer (some ⟨bl, 0, none⟩), .pointer (some ⟨bg, 0, none⟩), .pointer (some ⟨bp, 0, none⟩), .pointer (some ⟨bh, 0, none⟩), .pointer (some ⟨bw, 0, none⟩), .pointer (some ⟨be, 0, none⟩)]]
    rw [World.size_alloc, World.size_alloc] at this
    exact this.alloc _
  have b3 : Blk ((((w.alloc (.cells #[.int .i64 (n : Int)] 3)).alloc (.cells #[.int .i64 (need : Int)] 3)).alloc (.cells #[.func (.func 70) #[] #[.pointer (some ⟨bl, 0, none⟩), .pointer (some ⟨bg, 0, none⟩), .pointer (some ⟨bp, 0, none⟩), .pointer (some ⟨bh, 0, none⟩), .pointer (some ⟨bw, 0, none⟩), .pointer (some ⟨be, 0, none⟩)]] 23)).alloc (.cells #[.nilFunc] 23)) (w.heap.size + 1 + 1 + 1) 23 #[.nilFunc] := by
    have := Blk.new (((w.alloc (.cells #[.int .i64 (n : Int)] 3)).alloc (.cells #[.int .i64 (need : Int)] 3)).alloc (.cells #[.func (.func 70) #[] #[.pointer (some ⟨bl, 0, none⟩), .pointer (some ⟨bg, 0, none⟩), .pointer (some ⟨bp, 0, none⟩), .pointer (some ⟨bh, 0, none⟩), .pointer (some ⟨bw, 0, none⟩), .pointer (some ⟨be, 0, none⟩)]] 23)) 23 #[.nilFunc]
    rw [World.size_alloc, World.size_alloc, World.size_alloc] at this
    exact this
  have hb : Below w.heap.size w ((((w.alloc (.cells #[.int .i64 (n : Int)] 3)).alloc (.cells #[.int .i64 (need : Int)] 3)).alloc (.cells #[.func (.func 70) #[] #[.pointer (some ⟨bl, 0, none⟩), .pointer (some ⟨bg, 0, none⟩), .pointer (some ⟨bp, 0, none⟩), .pointer (some ⟨bh, 0, none⟩), .pointer (some ⟨bw, 0, none⟩), .pointer (some ⟨be, 0, none⟩)]] 23)).alloc (.cells #[.nilFunc] 23)) := ((((Below.refl _ w).alloc (Nat.le_refl _) _).alloc (by simp only [World.size_alloc]; omega) _).alloc (by simp only [World.size_alloc]; omega) _).alloc (by simp only [World.size_alloc]; omega) _
  go_wp2_with fail
  generalize ((((w.alloc (.cells #[.int .i64 (n : Int)] 3)).alloc (.cells #[.int .i64 (need : Int)] 3)).alloc (.cells #[.func (.func 70) #[] #[.pointer (some ⟨bl, 0, none⟩), .pointer (some ⟨bg, 0, none⟩), .pointer (some ⟨bp, 0, none⟩), .pointer (some ⟨bh, 0, none⟩), .pointer (some ⟨bw, 0, none⟩), .pointer (some ⟨be, 0, none⟩)]] 23)).alloc (.cells #[.nilFunc] 23)) = w4 at *
  have c3 : w4.cell? ⟨w.heap.size + 1 + 1 + 1, 0, none⟩ = some .nilFunc := b3.cell 0
  have f3 : w4.frozen? ⟨w.heap.size + 1 + 1 + 1, 0, none⟩ = false := b3.frozen 0
  have hc : ChIn (w.heap.size + 1) (w.heap.size + 1 + 1) w.heap.size (w.heap.size + 1 + 1 + 1) bl bg bp bh bw be need n (w4.setCell ⟨w.heap.size + 1 + 1 + 1, 0, none⟩ (.func (.func 89) #[] #[.pointer (some ⟨w.heap.size + 1, 0, none⟩), .pointer (some ⟨w.heap.size + 1 + 1, 0, none⟩), .pointer (some ⟨w.heap.size, 0, none⟩), .pointer (some ⟨w.heap.size + 1 + 1 + 1, 0, none⟩)])) :=
    ⟨b1.far (by simp) _, b2.far (by simp) _, b0.far (by simp; omega) _, b3.set_ 0 _⟩
  have hb2 : Below w.heap.size w (w4.setCell ⟨w.heap.size + 1 + 1 + 1, 0, none⟩ (.func (.func 89) #[] #[.pointer (some ⟨w.heap.size + 1, 0, none⟩), .pointer (some ⟨w.heap.size + 1 + 1, 0, none⟩), .pointer (some ⟨w.heap.size, 0, none⟩), .pointer (some ⟨w.heap.size + 1 + 1 + 1, 0, none⟩)])) := hb.setCell (by simp; omega) _
  have hst : Sem.run Tryd.prog (store ⟨w.heap.size + 1 + 1 + 1, 0, none⟩ (.func (.func 89) #[] #[.pointer (some ⟨w.heap.size + 1, 0, none⟩), .pointer (some ⟨w.heap.size + 1 + 1, 0, none⟩), .pointer (some ⟨w.heap.size, 0, none⟩), .pointer (some ⟨w.heap.size + 1 + 1 + 1, 0, none⟩)])) w4 = .ok () (w4.setCell ⟨w.heap.size + 1 + 1 + 1, 0, none⟩ (.func (.func 89) #[] #[.pointer (some ⟨w.heap.size + 1, 0, none⟩), .pointer (some ⟨w.heap.size + 1 + 1, 0, none⟩), .pointer (some ⟨w.heap.size, 0, none⟩), .pointer (some ⟨w.heap.size + 1 + 1 + 1, 0, none⟩)])) := by simp [store, Sem.run, c3, f3]
  have HK := Lib.hid (KEY.out _ hb2 _ _ _ _ hc)
  clear KEY b0 b1 b2 b3 hb hc hb2
  rw [hst]
  clear hst
  go_wp2_with fail
  refine HK.out.mono ?_
  rintro e w6 ⟨rfl, h1, h2⟩
  go_wp2_with fail
  go_end0
  exact ⟨rfl, h1, h2⟩
end Go.Proofs.YtmneokkdkgflkaaDoor
