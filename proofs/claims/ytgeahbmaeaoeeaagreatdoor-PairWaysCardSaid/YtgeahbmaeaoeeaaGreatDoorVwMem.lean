/- Words for memory: what is seen of entries. -/
import Derived.Test.YtgeahbmaeaoeeaaGreatDoorPolV
set_option linter.unusedVariables false
set_option linter.unusedSimpArgs false
namespace Go.Proofs.YtgeahbmaeaoeeaaGreatDoor
open Go.RowKit Num

/-- What is seen of an entry. -/
structure SeenS where
  num : Int
  time : Int
  st : Int
  len : Int
  ep : Int
  boxes : List Sh
  who : List Sh
def seen0 : SeenS := ⟨0, 0, 0, 0, 0, [], []⟩
def seeL (L : List SeenS) (k : Nat) : SeenS := L.getD k seen0
theorem seeL_mem {L : List SeenS} {k : Nat} (h : k < L.length) : seeL L k ∈ L := by
  unfold seeL; rw [List.getD_eq_getElem?_getD, List.getElem?_eq_getElem h]; exact List.getElem_mem h
/-- An entry that lies in seven cells. -/
structure SeeAt (w : World) (S : Nat → Prop) (b off : Nat) (s : SeenS) (u v : Value) : Prop where
  c0 : w.cell? ⟨b, off, none⟩ = some (.int .i64 s.num)
  c1 : w.cell? ⟨b, off + 1, none⟩ = some (.int .i64 s.time)
  c2 : w.cell? ⟨b, off + 2, none⟩ = some (.int .i64 s.st)
  c3 : w.cell? ⟨b, off + 3, none⟩ = some (.int .i64 s.len)
  c4 : w.cell? ⟨b, off + 4, none⟩ = some (.int .i64 s.ep)
  c5 : w.cell? ⟨b, off + 5, none⟩ = some u
  c6 : w.cell? ⟨b, off + 6, none⟩ = some v
  bx : ShAt w S u s.boxes
  wh : ShAt w S v s.who
theorem SeeAt.keep {w w' : World} {S : Nat → Prop} {b off : Nat} {s : SeenS} {u v : Value} (h : SeeAt w S b off s u v) (hb : w'.heap[b]? = w.heap[b]?) (hk : ∀ b, S b → w'.heap[b]? = w.heap[b]?) : SeeAt w' S b off s u v :=
  ⟨(World.cell?_of_block hb).trans h.c0, (World.cell?_of_block hb).trans h.c1, (World.cell?_of_block hb).trans h.c2, (World.cell?_of_block hb).trans h.c3, (World.cell?_of_block hb).trans h.c4, (World.cell?_of_block hb).trans h.c5, (World.cell?_of_block hb).trans h.c6, h.bx.keep hk, h.wh.keep hk⟩
theorem SeeAt.mono {w : World} {S T : Nat → Prop} {b off : Nat} {s : SeenS} {u v : Value} (h : SeeAt w S b off s u v) (hk : ∀ b, S b → T b) : SeeAt w T b off s u v :=
  ⟨h.c0, h.c1, h.c2, h.c3, h.c4, h.c5, h.c6, h.bx.mono hk, h.wh.mono hk⟩
/-- A list of entries. -/
def SeensAt (w : World) (S : Nat → Prop) (v : Value) (L : List SeenS) : Prop :=
  ∃ (A : Option Addr) (n c : Nat), v = .slice A n c ∧ n = L.length ∧ n ≤ c ∧ (0 < n → ∃ b off, A = some ⟨b, off, none⟩ ∧ S b ∧ ∀ k, k < n → ∃ x y, SeeAt w S b (off + k * 7) (seeL L k) x y)
theorem SeensAt.keep {w w' : World} {S : Nat → Prop} {v : Value} {L : List SeenS} (h : SeensAt w S v L) (hk : ∀ b, S b → w'.heap[b]? = w.heap[b]?) : SeensAt w' S v L := by
  obtain ⟨A, n, c, h1, h2, h3, h4⟩ := h
  refine ⟨A, n, c, h1, h2, h3, fun hn => ?_⟩
  obtain ⟨b, off, hA, hS, hc⟩ := h4 hn
  exact ⟨b, off, hA, hS, fun k hk' => by obtain ⟨x, y, hs⟩ := hc k hk'; exact ⟨x, y, hs.keep (hk b hS) hk⟩⟩
theorem SeensAt.mono {w : World} {S T : Nat → Prop} {v : Value} {L : List SeenS} (h : SeensAt w S v L) (hk : ∀ b, S b → T b) : SeensAt w T v L := by
  obtain ⟨A, n, c, h1, h2, h3, h4⟩ := h
  refine ⟨A, n, c, h1, h2, h3, fun hn => ?_⟩
  obtain ⟨b, off, hA, hS, hc⟩ := h4 hn
  exact ⟨b, off, hA, hk b hS, fun k hk' => by obtain ⟨x, y, hs⟩ := hc k hk'; exact ⟨x, y, hs.mono hk⟩⟩
/-- Known blocks stay known. -/
theorem SeensAt.up {w w' : World} {v : Value} {L : List SeenS} (h : SeensAt w (· < w.heap.size) v L) (hb : Below w.heap.size w w') : SeensAt w' (· < w'.heap.size) v L :=
  (h.keep fun b hlt => hb.block b hlt).mono fun b hlt => Nat.lt_of_lt_of_le hlt hb.size
theorem ShAt.up {w w' : World} {v : Value} {L : List Sh} (h : ShAt w (· < w.heap.size) v L) (hb : Below w.heap.size w w') : ShAt w' (· < w'.heap.size) v L :=
  (h.keep fun b hlt => hb.block b hlt).mono fun b hlt => Nat.lt_of_lt_of_le hlt hb.size
theorem IntsAt.up {w w' : World} {v : Value} {L : List Int} (h : IntsAt w (· < w.heap.size) v L) (hb : Below w.heap.size w w') : IntsAt w' (· < w'.heap.size) v L :=
  (h.keep fun b hlt => hb.block b hlt).mono fun b hlt => Nat.lt_of_lt_of_le hlt hb.size
theorem SeensAt.none_ (w : World) (S : Nat → Prop) (c : Nat) : SeensAt w S (.slice none 0 c) [] := ⟨none, 0, c, rfl, rfl, Nat.zero_le _, fun h => absurd h (Nat.lt_irrefl 0)⟩
/-- The cells of a row of entries. -/
def seeC (L : List SeenS) (us vs : Nat → Value) : List Value := (List.range (7 * L.length)).map fun j =>
  let s := seeL L (j / 7)
  if j % 7 = 0 then .int .i64 s.num else if j % 7 = 1 then .int .i64 s.time else if j % 7 = 2 then .int .i64 s.st else if j % 7 = 3 then .int .i64 s.len else if j % 7 = 4 then .int .i64 s.ep else if j % 7 = 5 then us (j / 7) else vs (j / 7)
theorem seeC_len (L : List SeenS) (us vs : Nat → Value) : (seeC L us vs).length = L.length * 7 := by simp [seeC]; omega
def seeV (L : List SeenS) (us vs : Nat → Value) (j : Nat) : Value :=
  let s := seeL L (j / 7)
  if j % 7 = 0 then .int .i64 s.num else if j % 7 = 1 then .int .i64 s.time else if j % 7 = 2 then .int .i64 s.st else if j % 7 = 3 then .int .i64 s.len else if j % 7 = 4 then .int .i64 s.ep else if j % 7 = 5 then us (j / 7) else vs (j / 7)
theorem seeC_get (L : List SeenS) (us vs : Nat → Value) (j : Nat) (h : j < 7 * L.length) : (seeC L us vs)[j]? = some (seeV L us vs j) := by
  unfold seeC seeV; rw [List.getElem?_map, List.getElem?_range h]; rfl
theorem seeV_at (L : List SeenS) (us vs : Nat → Value) (k : Nat) :
    seeV L us vs (k * 7) = .int .i64 (seeL L k).num ∧ seeV L us vs (k * 7 + 1) = .int .i64 (seeL L k).time ∧ seeV L us vs (k * 7 + 2) = .int .i64 (seeL L k).st ∧ seeV L us vs (k * 7 + 3) = .int .i64 (seeL L k).len ∧ seeV L us vs (k * 7 + 4) = .int .i64 (seeL L k).ep ∧ seeV L us vs (k * 7 + 5) = us k ∧ seeV L us vs (k * 7 + 6) = vs k := by
  have d := fun (j : Nat) (hj : j < 7) => (show (k * 7 + j) / 7 = k by omega)
  have m := fun (j : Nat) (hj : j < 7) => (show (k * 7 + j) % 7 = j by omega)
  refine ⟨?_, ?_, ?_, ?_, ?_, ?_, ?_⟩ <;> unfold seeV
  · rw [show k * 7 / 7 = k by omega, show k * 7 % 7 = 0 by omega]; rfl
  · rw [d 1 (by omega), m 1 (by omega)]; rfl
  · rw [d 2 (by omega), m 2 (by omega)]; rfl
  · rw [d 3 (by omega), m 3 (by omega)]; rfl
  · rw [d 4 (by omega), m 4 (by omega)]; rfl
  · rw [d 5 (by omega), m 5 (by omega)]; rfl
  · rw [d 6 (by omega), m 6 (by omega)]; rfl
theorem SeensAt.reads {w : World} {S : Nat → Prop} {B : Nat} {A : Option Addr} {n c : Nat} {L : List SeenS} (h : SeensAt w S (.slice A n c) L) (hS : ∀ b, S b → b < B) :
    ∃ us vs : Nat → Value, Reads w B 7 A n (seeC L us vs) ∧ (∀ k, k < n → ShAt w S (us k) (seeL L k).boxes ∧ ShAt w S (vs k) (seeL L k).who) ∧ n = L.length ∧ n ≤ c ∧ (0 < n → ∃ b off, A = some ⟨b, off, none⟩ ∧ S b) := by
  obtain ⟨A', n', c', hv, h2, h3, h4⟩ := h
  injection hv with e1 e2 e3
  subst e1 e2 e3
  rcases Nat.eq_zero_or_pos n with h0 | h0
  · subst h0
    refine ⟨fun _ => .slice none 0 0, fun _ => .slice none 0 0, ⟨by rw [seeC_len, ← h2], fun h => absurd h (Nat.lt_irrefl 0)⟩, fun k hk => absurd hk (Nat.not_lt_zero k), h2, h3, fun h => absurd h (Nat.lt_irrefl 0)⟩
  · obtain ⟨b, off, rfl, hSb, hc⟩ := h4 h0
    have hex : ∀ k, ∃ x y, k < n → SeeAt w S b (off + k * 7) (seeL L k) x y := fun k => by
      by_cases hk : k < n
      · obtain ⟨x, y, h⟩ := hc k hk; exact ⟨x, y, fun _ => h⟩
      · exact ⟨.slice none 0 0, .slice none 0 0, fun h => absurd h hk⟩
    obtain ⟨us, hus⟩ := Classical.skolem.1 hex
    obtain ⟨vs, hvs⟩ := Classical.skolem.1 hus
    refine ⟨us, vs, ⟨by rw [seeC_len, ← h2], fun _ => ⟨_, rfl, hS b hSb, fun j u hj => ?_⟩⟩, fun k hk => ⟨(hvs k hk).bx, (hvs k hk).wh⟩, h2, h3, fun _ => ⟨b, off, rfl, hSb⟩⟩
    have hjl : j < 7 * L.length := by
      rcases Nat.lt_or_ge j (7 * L.length) with h | h
      · exact h
      · rw [List.getElem?_eq_none (by rw [seeC_len]; omega)] at hj; cases hj
    rw [seeC_get L us vs j hjl] at hj
    injection hj with hj
    have hadd : (⟨b, off, none⟩ : Addr).add j = ⟨b, off + j, none⟩ := by unfold Addr.add; split <;> simp_all
    rw [hadd, ← hj]
    obtain ⟨k, r, hr, rfl⟩ : ∃ k r, r < 7 ∧ j = k * 7 + r := ⟨j / 7, j % 7, Nat.mod_lt _ (by omega), by omega⟩
    have hs := hvs k (by omega)
    obtain ⟨v0, v1, v2, v3, v4, v5, v6⟩ := seeV_at L us vs k
    rcases (show r = 0 ∨ r = 1 ∨ r = 2 ∨ r = 3 ∨ r = 4 ∨ r = 5 ∨ r = 6 by omega) with rfl | rfl | rfl | rfl | rfl | rfl | rfl
    · rw [Nat.add_zero, v0]; exact hs.c0
    · rw [v1]; exact hs.c1
    · rw [v2]; exact hs.c2
    · rw [v3]; exact hs.c3
    · rw [v4]; exact hs.c4
    · rw [v5]; exact hs.c5
    · rw [v6]; exact hs.c6
theorem SeensAt.of_own {w : World} {B n : Nat} {v : Value} {L : List SeenS} {us vs : Nat → Value} (h : w.ownsRow B 39 7 v n (seeC L us vs)) (hn : n = L.length) (hu : ∀ k, k < n → ShAt w (· < w.heap.size) (us k) (seeL L k).boxes ∧ ShAt w (· < w.heap.size) (vs k) (seeL L k).who) : SeensAt w (· < w.heap.size) v L := by
  rcases id h.2 with ⟨rfl, h0⟩ | ⟨g, cap, cur, rfl, hB, hh, hnc, hm, hs, ht⟩
  · have hl : L.length = 0 := by omega
    exact ⟨none, 0, 0, rfl, by omega, Nat.le_refl _, fun h => absurd h (Nat.lt_irrefl 0)⟩
  · have hlt : g < w.heap.size := (Array.getElem?_eq_some_iff.1 hh).1
    refine ⟨_, n, cap, rfl, hn, hnc, fun _ => ⟨g, 0, rfl, hlt, fun k hk => ⟨us k, vs k, ?_⟩⟩⟩
    have hc := fun (r : Nat) (hr : r < 7) => (by
      have h1 := h.cells (g := g) rfl (k * 7 + r) _ (seeC_get L us vs (k * 7 + r) (by omega))
      have ha : (⟨g, 0, none⟩ : Addr).add (k * 7 + r) = ⟨g, 0 + k * 7 + r, none⟩ := by unfold Addr.add; split <;> simp_all
      rwa [ha] at h1 : w.cell? ⟨g, 0 + k * 7 + r, none⟩ = some (seeV L us vs (k * 7 + r)))
    obtain ⟨v0, v1, v2, v3, v4, v5, v6⟩ := seeV_at L us vs k
    exact ⟨v0 ▸ hc 0 (by omega), v1 ▸ hc 1 (by omega), v2 ▸ hc 2 (by omega), v3 ▸ hc 3 (by omega), v4 ▸ hc 4 (by omega), v5 ▸ hc 5 (by omega), v6 ▸ hc 6 (by omega), (hu k hk).1, (hu k hk).2⟩
end Go.Proofs.YtgeahbmaeaoeeaaGreatDoor
