/- The small primes with the periods of the four bases. No program stands in it. -/
import Derived.Test.YtmneokkdkgflkaaDoorMrDfs
set_option linter.unusedVariables false
set_option linter.unusedSimpArgs false
namespace Go.Proofs.YtmneokkdkgflkaaDoor.Num

def tab : List (Nat × Nat) := [(499, 498), (491, 490), (487, 486), (479, 239), (467, 466), (463, 462), (461, 460), (457, 456), (449, 448), (443, 442), (439, 438), (433, 432), (431, 430), (421, 420), (419, 418), (409, 408), (401, 400), (397, 396), (389, 388), (383, 382), (379, 378), (373, 372), (367, 366), (359, 358), (353, 352), (349, 348), (347, 346), (337, 336), (331, 330), (317, 316), (313, 312), (311, 155), (307, 306), (293, 292), (283, 282), (281, 280), (277, 276), (271, 270), (269, 268), (263, 262), (257, 256), (251, 250), (241, 240), (239, 238), (233, 232), (229, 228), (227, 226), (223, 222), (211, 210), (199, 198), (197, 196), (193, 192), (191, 190), (181, 180), (179, 178), (173, 172), (167, 166), (163, 162), (157, 156), (151, 150), (149, 148), (139, 138), (137, 136), (131, 130), (127, 126), (113, 112), (109, 108), (107, 106), (103, 102), (101, 100), (97, 96), (89, 88), (83, 82), (79, 78), (73, 72), (71, 70), (67, 66), (61, 60), (59, 58), (53, 52), (47, 46), (43, 42), (41, 40), (37, 36), (31, 30), (29, 28), (23, 22), (19, 18), (17, 16), (13, 12), (11, 10)]
def fOf_ (p : Nat) : Nat := if p < 16 then 2 else if p < 36 then 4 else if p < 121 then 9 else 30
set_option maxRecDepth 1000000
theorem tab_ok : (tab.all fun x => decide (2 ≤ x.1) && noDiv x.1 (fOf_ x.1) 2 && decide (x.1 < (fOf_ x.1 + 2) * (fOf_ x.1 + 2)) && okL x.1 x.2 && decide (0 < x.2) && decide (x.2 < 32768)) = true := by decide +kernel
theorem tab_all : ((List.range 501).all fun q => (tab.any fun x => x.1 == q) || decide (q < 11) || (List.range 32).any fun d => decide (2 ≤ d) && decide (d < q) && q % d == 0) = true := by decide +kernel
theorem tabOk : TabOk tab := ⟨fun x hx => by
  have h := List.all_eq_true.1 tab_ok x hx
  simp only [Bool.and_eq_true, decide_eq_true_eq] at h
  obtain ⟨⟨⟨⟨⟨h1, h2⟩, h3⟩, h4⟩, h5⟩, h6⟩ := h
  exact ⟨prm_of h1 h2 h3, h4, h5, h6⟩⟩
theorem tab_mem {q : Nat} (hq : Prm q) (h1 : 11 ≤ q) (h2 : q ≤ 500) : ∃ L, (q, L) ∈ tab := by
  have h := List.all_eq_true.1 tab_all q (List.mem_range.2 (by omega))
  simp only [Bool.or_eq_true, decide_eq_true_eq, List.any_eq_true, Bool.and_eq_true, beq_iff_eq] at h
  rcases h with (⟨x, hx, rfl⟩ | h) | ⟨d, _, ⟨h3, h4⟩, h5⟩
  · exact ⟨x.2, hx⟩
  · omega
  · rcases hq.2 d (Nat.dvd_of_mod_eq_zero h5) with e | e <;> omega
end Go.Proofs.YtmneokkdkgflkaaDoor.Num
