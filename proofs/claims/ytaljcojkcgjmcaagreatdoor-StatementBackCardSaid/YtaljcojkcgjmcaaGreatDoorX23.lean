/- Contracts: the kit's Word. -/
import Derived.Test.YtaljcojkcgjmcaaGreatDoorX03
set_option linter.unusedVariables false
set_option linter.unusedSimpArgs false
namespace Go.Proofs.YtaljcojkcgjmcaaGreatDoor
open Go.RowKit Num

def KWordPost (b n : Nat) (ss : Nat → ByteArray) (w : World) (e : Ending) (w' : World) : Prop := ∃ r : Nat, r < n ∧ e = .returned (.string (ss r)) ∧ Dc w' b ∧ w.grownBy w' (some b)
set_option maxHeartbeats 1000000 in
theorem k_WordK (b g off n c : Nat) (ss : Nat → ByteArray) (w : World) (hd : Dc w b) (hg : g < w.heap.size) (hne : g ≠ b) (h1 : 1 ≤ n) (h2 : n ≤ 1000000) (hc : ∀ i, i < n → w.cell? ⟨g, off + i, none⟩ = some (.string (ss i))) :
    Calls Tryz.prog 14 #[.pointer (some ⟨b, 0, none⟩), .slice (some ⟨g, off, none⟩) n c] w (KWordPost b n ss w) := by
  have HC := Lib.hid hc
  have HD := Lib.hid hd
  clear hc hd
  go_enter Tryz.func14, Tryz.ntmps14
  go_wp2_with fail
  refine (k_Next b n _ HD.out h1 (by omega)).mono ?_
  rintro e w1 ⟨r, hr, rfl, hd1, hg1⟩
  have hcell : w1.cell? ⟨g, off + r, none⟩ = some (.string (ss r)) := (World.cell?_of_block (hg1.block g hg (by intro e; injection e with e; exact hne e))).trans (HC.out r hr)
  have HD1 := Lib.hid hd1
  have HG1 := Lib.hid hg1
  have qr : (r : Int) < (n : Int) := by omega
  have q0 : (0 : Int) ≤ (r : Int) := by omega
  clear hd1 hg1
  go_wp2_with fail
  go_ret
  exact ⟨r, hr, rfl, HD1.out, HG1.out⟩
end Go.Proofs.YtaljcojkcgjmcaaGreatDoor
