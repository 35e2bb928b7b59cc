/- The three salts that the dice can give, byte by byte, and their elements. Run by the kernel: the marks of the new circles against those of the first one (salt 97). Run by the kernel: the marks of the new circles against those of the first one (salt 98). Run by the kernel: the marks of the new circles against those of the first one (salt 99). The dice's salts are three; the marks of the new circles' shares are others than those of the first one's. Plain facts on shares that are values of polynomials. Plain facts on the circle of the sanity check of the chapter. No program stands in it but its names. Contracts at the circles of the law FriendsReplaced. -/
import Derived.Test.YtjfphobfikadlaaGreatDoorX34
import Derived.Test.YtjfphobfikadlaaGreatDoorX36
import Derived.Test.YtjfphobfikadlaaGreatDoorX35
import Derived.Test.YtjfphobfikadlaaGreatDoorX32
import Derived.Test.YtjfphobfikadlaaGreatDoorX16
import Derived.Test.YtjfphobfikadlaaGreatDoorX30
import Derived.Test.YtjfphobfikadlaaGreatDoorX33
import Derived.Test.YtjfphobfikadlaaGreatDoorX31
set_option linter.unusedVariables false
set_option linter.unusedSimpArgs false
set_option maxRecDepth 100000
namespace Go.Proofs.YtjfphobfikadlaaGreatDoor.Lane
open Go.RowKit

def saltS (q : UInt8) : ByteArray := (⟨#[115, 97, 108, 116]⟩ : ByteArray) ++ ⟨#[q]⟩
def saltB (q : UInt8) : ByteArray := (shaOf (saltS q)).extract 0 16
/-- The first half of a sum, out of its first four words. -/
theorem half_of (s : ByteArray) (A : List Nat) (h : ∀ j, j < 4 → toN (shaSt (padS s) ((padS s).size / 64)) j = A.getD j 0) : ((shaOf s).extract 0 16).data.toList = (List.range 16).map fun i => UInt8.ofNat (A.getD (i / 4) 0 / 2 ^ (24 - 8 * (i % 4)) % 256) := by
  rw [ByteArray.data_extract, Array.toList_extract, List.extract_eq_take_drop]
  unfold shaOf
  rw [strOfNums_data]
  simp only [List.drop_zero, Nat.sub_zero]
  unfold outL
  rw [← List.map_take, ← List.map_take, List.take_range, List.map_map]
  refine List.map_congr_left fun i hi => ?_
  have hi' : i < 16 := by have := List.mem_range.1 hi; omega
  have hw := shaSt_wd (padS s) ((padS s).size / 64)
  have e := (hw.eq (i / 4)).1
  rw [h (i / 4) (by omega)] at e
  show UInt8.ofNat (shaSt (padS s) ((padS s).size / 64) (i / 4) / ((2 ^ (24 - 8 * (i % 4)) : Nat) : Int) % 256).toNat = _
  rw [e]
  congr 1
theorem one_lane (P : ByteArray) (hP : P.size = 64) (N a b c d : Nat) (hN : N = hn P.data.toList)
    (h : (shaM (mk 1) (pk 1 fun _ => 1) [N] 1 (Nat.mul 1779033703 (pk 1 fun _ => 1)) (Nat.mul 3144134277 (pk 1 fun _ => 1)) (Nat.mul 1013904242 (pk 1 fun _ => 1)) (Nat.mul 2773480762 (pk 1 fun _ => 1)) (Nat.mul 1359893119 (pk 1 fun _ => 1)) (Nat.mul 2600822924 (pk 1 fun _ => 1)) (Nat.mul 528734635 (pk 1 fun _ => 1)) (Nat.mul 1541459225 (pk 1 fun _ => 1)) fun x y z t _ _ _ _ => Nat.beq x a && Nat.beq y b && Nat.beq z c && Nat.beq t d) = true) :
    toN (shaSt P 1) 0 = a ∧ toN (shaSt P 1) 1 = b ∧ toN (shaSt P 1) 2 = c ∧ toN (shaSt P 1) 3 = d := by
  have h0 : ∀ (c j : Nat), c < 4294967296 → c = toN bOf j → PW 1 (Nat.mul c (pk 1 fun _ => 1)) (fun i => toN (shaSt P (1 - 1)) j) := fun c j hc e => (pw_const c hc).ext fun i => by rw [Nat.sub_self, e]; rfl
  obtain ⟨X, h1, h2⟩ := shaM_ok 1 1 (fun _ => P) [N] rfl (fun i hi => ⟨hP, by rw [show i = 0 by omega]; exact hN⟩) (fun x y z t _ _ _ _ => Nat.beq x a && Nat.beq y b && Nat.beq z c && Nat.beq t d) 1 (Nat.le_refl _) _ _ _ _ _ _ _ _ (h0 1779033703 0 (by decide) (by decide)) (h0 3144134277 1 (by decide) (by decide)) (h0 1013904242 2 (by decide) (by decide)) (h0 2773480762 3 (by decide) (by decide)) (h0 1359893119 4 (by decide) (by decide)) (h0 2600822924 5 (by decide) (by decide)) (h0 528734635 6 (by decide) (by decide)) (h0 1541459225 7 (by decide) (by decide))
  rw [h1] at h
  simp only [Bool.and_eq_true] at h
  obtain ⟨⟨⟨q0, q1⟩, q2⟩, q3⟩ := h
  have g : ∀ j, j < 8 → X j = toN (shaSt P 1) j := fun j hj => by
    have := (h2 j hj).1
    rw [this]
    show _ + 18446744073709551616 * 0 = _
    rfl
  rw [← g 0 (by decide), ← g 1 (by decide), ← g 2 (by decide), ← g 3 (by decide)]
  exact ⟨Nat.eq_of_beq_eq_true q0, Nat.eq_of_beq_eq_true q1, Nat.eq_of_beq_eq_true q2, Nat.eq_of_beq_eq_true q3⟩
theorem salt_list (q : UInt8) : (saltS q).data.toList = [115, 97, 108, 116, q] := rfl
theorem salt_pad (q : UInt8) (N : Nat) (hN : ((hn [115, 97, 108, 116, q] * 256 + 128) * 256 ^ 50 * 18446744073709551616 + 40) = N) : (padS (saltS q)).size = 64 ∧ N = hn (padS (saltS q)).data.toList := by
  have h := pad_hn [115, 97, 108, 116, q] 5 1 rfl (by decide) (by decide)
  have e : (padS (saltS q)).data.toList = padL [115, 97, 108, 116, q] 5 := rfl
  refine ⟨?_, ?_⟩
  · have : (padS (saltS q)).data.toList.length = 64 := by rw [e]; exact h.2
    simpa using this
  · rw [e, h.1, ← hN]

theorem run97 : (shaM (mk 1) (pk 1 fun _ => 1) [6042970322504969575900040937114138244849004259680678238936072771759045268016080427036432986718542105122893168205599228415998176396656319535692475589984296] 1 (Nat.mul 1779033703 (pk 1 fun _ => 1)) (Nat.mul 3144134277 (pk 1 fun _ => 1)) (Nat.mul 1013904242 (pk 1 fun _ => 1)) (Nat.mul 2773480762 (pk 1 fun _ => 1)) (Nat.mul 1359893119 (pk 1 fun _ => 1)) (Nat.mul 2600822924 (pk 1 fun _ => 1)) (Nat.mul 528734635 (pk 1 fun _ => 1)) (Nat.mul 1541459225 (pk 1 fun _ => 1)) fun x y z t _ _ _ _ => Nat.beq x 3297649361 && Nat.beq y 167500958 && Nat.beq z 2849018133 && Nat.beq t 1494947347) = true := by decide +kernel
theorem key97 : (saltB 97).data.toList = [196, 142, 34, 209, 9, 251, 220, 158, 169, 208, 145, 21, 89, 27, 22, 19] := by
  obtain ⟨hs, hN⟩ := salt_pad 97 6042970322504969575900040937114138244849004259680678238936072771759045268016080427036432986718542105122893168205599228415998176396656319535692475589984296 (by decide +kernel)
  obtain ⟨e0, e1, e2, e3⟩ := one_lane _ hs _ _ _ _ _ hN run97
  have := half_of (saltS 97) [3297649361, 167500958, 2849018133, 1494947347] fun j hj => by
    rw [hs]
    have : j = 0 ∨ j = 1 ∨ j = 2 ∨ j = 3 := by omega
    rcases this with rfl | rfl | rfl | rfl <;> assumption
  unfold saltB
  rw [this]
  decide +kernel
def sec3_97 : List Nat := [12881442, 13699579, 14458537, 13668629, 5839638, 19]
def sec0_97 : List Nat := [1, 1, 0, 0, 0, 1, 0, 0, 1, 0, 0, 0, 1, 1, 1, 0, 0, 0, 1, 0, 0, 0, 1, 0, 1, 1, 0, 1, 0, 0, 0, 1, 0, 0, 0, 0, 1, 0, 0, 1, 1, 1, 1, 1, 1, 0, 1, 1, 1, 1, 0, 1, 1, 1, 0, 0, 1, 0, 0, 1, 1, 1, 1, 0, 1, 0, 1, 0, 1, 0, 0, 1, 1, 1, 0, 1, 0, 0, 0, 0, 1, 0, 0, 1, 0, 0, 0, 1, 0, 0, 0, 1, 0, 1, 0, 1, 0, 1, 0, 1, 1, 0, 0, 1, 0, 0, 0, 1, 1, 0, 1, 1, 0, 0, 0, 1, 0, 1, 1, 0, 0, 0, 0, 1, 0, 0, 1, 1]
theorem pk3_97 : pack3 (saltB 97).data.toList = sec3_97.map Int.ofNat := by rw [key97]; decide +kernel
theorem pk0_97 : bitsL (saltB 97).data.toList = sec0_97.map Int.ofNat := by rw [key97]; decide +kernel
theorem run98 : (shaM (mk 1) (pk 1 fun _ => 1) [6042970322517163906174712781767972609027883815562508700430857815317088849889617035391197696172137050837984933717942302365691171017341663190689695454461992] 1 (Nat.mul 1779033703 (pk 1 fun _ => 1)) (Nat.mul 3144134277 (pk 1 fun _ => 1)) (Nat.mul 1013904242 (pk 1 fun _ => 1)) (Nat.mul 2773480762 (pk 1 fun _ => 1)) (Nat.mul 1359893119 (pk 1 fun _ => 1)) (Nat.mul 2600822924 (pk 1 fun _ => 1)) (Nat.mul 528734635 (pk 1 fun _ => 1)) (Nat.mul 1541459225 (pk 1 fun _ => 1)) fun x y z t _ _ _ _ => Nat.beq x 147625255 && Nat.beq y 1578029927 && Nat.beq z 3994102954 && Nat.beq t 3087516338) = true := by decide +kernel
theorem key98 : (saltB 98).data.toList = [8, 204, 149, 39, 94, 14, 211, 103, 238, 17, 44, 170, 184, 7, 194, 178] := by
  obtain ⟨hs, hN⟩ := salt_pad 98 6042970322517163906174712781767972609027883815562508700430857815317088849889617035391197696172137050837984933717942302365691171017341663190689695454461992 (by decide +kernel)
  obtain ⟨e0, e1, e2, e3⟩ := one_lane _ hs _ _ _ _ _ hN run98
  have := half_of (saltS 98) [147625255, 1578029927, 3994102954, 3087516338] fun j hj => by
    rw [hs]
    have : j = 0 ∨ j = 1 ∨ j = 2 ∨ j = 3 := by omega
    rcases this with rfl | rfl | rfl | rfl <;> assumption
  unfold saltB
  rw [this]
  decide +kernel
def sec3_98 : List Nat := [576661, 2579982, 13854702, 1125546, 12060610, 178]
def sec0_98 : List Nat := [0, 0, 0, 0, 1, 0, 0, 0, 1, 1, 0, 0, 1, 1, 0, 0, 1, 0, 0, 1, 0, 1, 0, 1, 0, 0, 1, 0, 0, 1, 1, 1, 0, 1, 0, 1, 1, 1, 1, 0, 0, 0, 0, 0, 1, 1, 1, 0, 1, 1, 0, 1, 0, 0, 1, 1, 0, 1, 1, 0, 0, 1, 1, 1, 1, 1, 1, 0, 1, 1, 1, 0, 0, 0, 0, 1, 0, 0, 0, 1, 0, 0, 1, 0, 1, 1, 0, 0, 1, 0, 1, 0, 1, 0, 1, 0, 1, 0, 1, 1, 1, 0, 0, 0, 0, 0, 0, 0, 0, 1, 1, 1, 1, 1, 0, 0, 0, 0, 1, 0, 1, 0, 1, 1, 0, 0, 1, 0]
theorem pk3_98 : pack3 (saltB 98).data.toList = sec3_98.map Int.ofNat := by rw [key98]; decide +kernel
theorem pk0_98 : bitsL (saltB 98).data.toList = sec0_98.map Int.ofNat := by rw [key98]; decide +kernel
theorem run99 : (shaM (mk 1) (pk 1 fun _ => 1) [6042970322529358236449384626421806973206763371444339161925642858875132431763153643745962405625731996553076699230285376315384165638027006845686915318939688] 1 (Nat.mul 1779033703 (pk 1 fun _ => 1)) (Nat.mul 3144134277 (pk 1 fun _ => 1)) (Nat.mul 1013904242 (pk 1 fun _ => 1)) (Nat.mul 2773480762 (pk 1 fun _ => 1)) (Nat.mul 1359893119 (pk 1 fun _ => 1)) (Nat.mul 2600822924 (pk 1 fun _ => 1)) (Nat.mul 528734635 (pk 1 fun _ => 1)) (Nat.mul 1541459225 (pk 1 fun _ => 1)) fun x y z t _ _ _ _ => Nat.beq x 3712796540 && Nat.beq y 1540055454 && Nat.beq z 17825184 && Nat.beq t 1047665923) = true := by decide +kernel
theorem key99 : (saltB 99).data.toList = [221, 76, 199, 124, 91, 203, 97, 158, 1, 15, 253, 160, 62, 114, 29, 3] := by
  obtain ⟨hs, hN⟩ := salt_pad 99 6042970322529358236449384626421806973206763371444339161925642858875132431763153643745962405625731996553076699230285376315384165638027006845686915318939688 (by decide +kernel)
  obtain ⟨e0, e1, e2, e3⟩ := one_lane _ hs _ _ _ _ _ hN run99
  have := half_of (saltS 99) [3712796540, 1540055454, 17825184, 1047665923] fun j hj => by
    rw [hs]
    have : j = 0 ∨ j = 1 ∨ j = 2 ∨ j = 3 := by omega
    rcases this with rfl | rfl | rfl | rfl <;> assumption
  unfold saltB
  rw [this]
  decide +kernel
def sec3_99 : List Nat := [14503111, 8149963, 6397441, 1047968, 4092445, 3]
def sec0_99 : List Nat := [1, 1, 0, 1, 1, 1, 0, 1, 0, 1, 0, 0, 1, 1, 0, 0, 1, 1, 0, 0, 0, 1, 1, 1, 0, 1, 1, 1, 1, 1, 0, 0, 0, 1, 0, 1, 1, 0, 1, 1, 1, 1, 0, 0, 1, 0, 1, 1, 0, 1, 1, 0, 0, 0, 0, 1, 1, 0, 0, 1, 1, 1, 1, 0, 0, 0, 0, 0, 0, 0, 0, 1, 0, 0, 0, 0, 1, 1, 1, 1, 1, 1, 1, 1, 1, 1, 0, 1, 1, 0, 1, 0, 0, 0, 0, 0, 0, 0, 1, 1, 1, 1, 1, 0, 0, 1, 1, 1, 0, 0, 1, 0, 0, 0, 0, 1, 1, 1, 0, 1, 0, 0, 0, 0, 0, 0, 1, 1]
theorem pk3_99 : pack3 (saltB 99).data.toList = sec3_99.map Int.ofNat := by rw [key99]; decide +kernel
theorem pk0_99 : bitsL (saltB 99).data.toList = sec0_99.map Int.ofNat := by rw [key99]; decide +kernel
end Go.Proofs.YtjfphobfikadlaaGreatDoor.Lane
set_option maxRecDepth 1000000
namespace Go.Proofs.YtjfphobfikadlaaGreatDoor.Lane
theorem tabR_97_1 : grp1 500000003 1 1 6 1 sec3_97 2 1000 1 = true := by decide +kernel
theorem tabR_97_2 : grp1 500000003 2 1 6 1 sec3_97 2 1000 1 = true := by decide +kernel
theorem tabR_97_3 : grp1 500000003 3 1 6 1 sec3_97 2 1000 1 = true := by decide +kernel
end Go.Proofs.YtjfphobfikadlaaGreatDoor.Lane
set_option maxRecDepth 1000000
namespace Go.Proofs.YtjfphobfikadlaaGreatDoor.Lane
theorem tabR_98_1 : grp1 500000003 1 1 6 1 sec3_98 2 1000 1 = true := by decide +kernel
theorem tabR_98_2 : grp1 500000003 2 1 6 1 sec3_98 2 1000 1 = true := by decide +kernel
theorem tabR_98_3 : grp1 500000003 3 1 6 1 sec3_98 2 1000 1 = true := by decide +kernel
end Go.Proofs.YtjfphobfikadlaaGreatDoor.Lane
set_option maxRecDepth 1000000
namespace Go.Proofs.YtjfphobfikadlaaGreatDoor.Lane
theorem tabR_99_1 : grp1 500000003 1 1 6 1 sec3_99 2 1000 1 = true := by decide +kernel
theorem tabR_99_2 : grp1 500000003 2 1 6 1 sec3_99 2 1000 1 = true := by decide +kernel
theorem tabR_99_3 : grp1 500000003 3 1 6 1 sec3_99 2 1000 1 = true := by decide +kernel
end Go.Proofs.YtjfphobfikadlaaGreatDoor.Lane
namespace Go.Proofs.YtjfphobfikadlaaGreatDoor
open Go.RowKit Num

/-- A salt of the dice. -/
def IsSalt (s : ByteArray) : Prop := s = Lane.saltB 97 ∨ s = Lane.saltB 98 ∨ s = Lane.saltB 99
def SaltPost3 (b : Nat) (w : World) (e : Ending) (w' : World) : Prop := ∃ s0 : ByteArray, IsSalt s0 ∧ s0.size = 16 ∧ e = .returned (.string s0) ∧ Dc w' b ∧ w.grownBy w' (some b)
set_option maxRecDepth 100000 in
set_option maxHeartbeats 1000000 in
theorem k_Salt3 (b : Nat) (w : World) (hd : Dc w b) :
    Calls Tryz.prog 20 #[.pointer (some ⟨b, 0, none⟩)] w (SaltPost3 b w) := by
  have hlt := hd.lt
  have kb : Blk (w.alloc (.cells #[.string ⟨#[97]⟩, .string ⟨#[98]⟩, .string ⟨#[99]⟩] 9)) w.heap.size 9 #[.string ⟨#[97]⟩, .string ⟨#[98]⟩, .string ⟨#[99]⟩] := Blk.new w _ _
  obtain ⟨ss, hss, hsm⟩ : ∃ ss : Nat → ByteArray, (∀ i, i < 3 → (w.alloc (.cells #[.string ⟨#[97]⟩, .string ⟨#[98]⟩, .string ⟨#[99]⟩] 9)).cell? ⟨w.heap.size, 0 + i, none⟩ = some (.string (ss i))) ∧ ∀ r, r < 3 → ss r = ⟨#[97]⟩ ∨ ss r = ⟨#[98]⟩ ∨ ss r = ⟨#[99]⟩ := by
    refine ⟨fun i => if i = 0 then ⟨#[97]⟩ else if i = 1 then ⟨#[98]⟩ else ⟨#[99]⟩, fun i hi => ?_, fun r hr => ?_⟩
    · rw [Nat.zero_add, kb.cell i]
      match i, hi with
      | 0, _ => rfl
      | 1, _ => rfl
      | 2, _ => rfl
    · match r, hr with
      | 0, _ => exact .inl rfl
      | 1, _ => exact .inr (.inl rfl)
      | 2, _ => exact .inr (.inr rfl)
  have ho := k_Word b w.heap.size 0 3 3 ss _ (hd.alloc (.cells #[.string ⟨#[97]⟩, .string ⟨#[98]⟩, .string ⟨#[99]⟩] 9)) (by simp) (by omega) (by decide) (by decide) hss
  have HO := Lib.hid ho
  have HS := Lib.hid hsm
  clear ho kb hd hsm hss
  go_enter Tryz.func20, Tryz.ntmps20
  go_wp2_with fail
  refine HO.out.mono ?_
  rintro e w1 ⟨r, hr, rfl, hd1, hg1⟩
  have hq := HS.out r hr
  have hsz : (ss r).size = 1 := by rcases hq with h | h | h <;> rw [h] <;> rfl
  have HQ := Lib.hid hq
  clear hq
  generalize ss r = q at *
  have hz : ((⟨#[115, 97, 108, 116]⟩ : ByteArray) ++ q).size < 4294967296 := by rw [ByteArray.size_append, hsz]; decide
  have hs := rf_Sum ((⟨#[115, 97, 108, 116]⟩ : ByteArray) ++ q) w1 hz
  have HSU := Lib.hid hs
  have HD1 := Lib.hid hd1
  have HG1 := Lib.hid hg1
  clear hd1 hg1 hs hz
  go_wp2_with fail
  refine HSU.out.mono ?_
  rintro e w2 ⟨rfl, hb2⟩
  have h32 := shaOf_size ((⟨#[115, 97, 108, 116]⟩ : ByteArray) ++ q)
  have HD2 := Lib.hid (HD1.out.below hb2 HD1.out.lt)
  have HG2 := Lib.hid (gb_trans HG1.out (only_of_below hb2 _))
  clear hb2
  have HZ : Hid (IsSalt ((shaOf ((⟨#[115, 97, 108, 116]⟩ : ByteArray) ++ q)).extract 0 16)) := Lib.hid (by
    rcases HQ.out with h | h | h <;> rw [h]
    · exact .inl rfl
    · exact .inr (.inl rfl)
    · exact .inr (.inr rfl))
  generalize shaOf ((⟨#[115, 97, 108, 116]⟩ : ByteArray) ++ q) = z at *
  go_wp2_with fail
  go_ret
  exact ⟨_, HZ.out, by rw [ByteArray.size_extract]; omega, rfl, HD2.out, gb_trans (only_alloc (World.grownBy.refl w _) _) HG2.out⟩
/-- The shares of the law's circles. -/
def LK (key : ByteArray) (s : Nat) : List Sh := dealL 500000003 1 (pack3 key.data.toList) (fillL 500000003 s 6) 3
theorem LK_at (key : ByteArray) (s j : Nat) (hj : j < 3) : shAt (LK key s) j = (((j + 1 : Nat) : Int), (List.range (pack3 key.data.toList).length).map (dealV 500000003 1 (j + 1) (pack3 key.data.toList) (fillL 500000003 s 6))) := by
  unfold LK dealL shAt; rw [List.getD_eq_getElem?_getD, List.getElem?_map, List.getElem?_range hj]; rfl
theorem LK_mark (key : ByteArray) (sec : List Nat) (h6 : sec.length = 6) (hk : pack3 key.data.toList = Lane.toI sec) (s j : Nat) (hj : j < 3) :
    markS (shAt (LK key s) j).1 (shAt (LK key s) j).2 = shaOf (Lane.mbB 500000003 s (j + 1) 1 0 sec) := by
  rw [LK_at key s j hj, hk, Lane.toI_len]
  show markS ((j + 1 : Nat) : Int) ((List.range sec.length).map (dealV 500000003 1 (j + 1) (Lane.toI sec) (fillL 500000003 s 6))) = _
  rw [Lane.vals_eq 500000003 s (j + 1) 1 6 sec (by decide) (by omega), Lane.mark_eq 500000003 s (j + 1) 1 0 sec (by decide) (by decide) (by omega) (by omega)]
theorem rep_ne (key : ByteArray) (hk : IsSalt key) (r j : Nat) (hr : r < 1000) (hj : j < 3) : markS (shAt (LK key 1) j).1 (shAt (LK key 1) j).2 ≠ markS (shAt (LK key (2 + r)) j).1 (shAt (LK key (2 + r)) j).2 := by
  have fin : ∀ (sec : List Nat), sec.length = 6 → pack3 key.data.toList = Lane.toI sec → (∀ h, 1 ≤ h → h ≤ 3 → Lane.grp1 500000003 h 1 6 1 sec 2 1000 1 = true) → markS (shAt (LK key 1) j).1 (shAt (LK key 1) j).2 ≠ markS (shAt (LK key (2 + r)) j).1 (shAt (LK key (2 + r)) j).2 := fun sec h6 he hg => by
    rw [LK_mark key sec h6 he 1 j hj, LK_mark key sec h6 he (2 + r) j hj]
    exact fun e => Lane.grp1_ok 500000003 (j + 1) 1 6 1 sec 2 1000 1 (by decide) (by decide) (by omega) h6 (by decide) (fun d s0 => Lane.mbL_len _ _ _ _ _ _ (by omega)) (hg (j + 1) (by omega) (by omega)) r hr e.symm
  rcases hk with rfl | rfl | rfl
  · refine fin Lane.sec3_97 rfl Lane.pk3_97 fun h h1 h2 => ?_
    have : h = 1 ∨ h = 2 ∨ h = 3 := by omega
    rcases this with rfl | rfl | rfl
    · exact Lane.tabR_97_1
    · exact Lane.tabR_97_2
    · exact Lane.tabR_97_3
  · refine fin Lane.sec3_98 rfl Lane.pk3_98 fun h h1 h2 => ?_
    have : h = 1 ∨ h = 2 ∨ h = 3 := by omega
    rcases this with rfl | rfl | rfl
    · exact Lane.tabR_98_1
    · exact Lane.tabR_98_2
    · exact Lane.tabR_98_3
  · refine fin Lane.sec3_99 rfl Lane.pk3_99 fun h h1 h2 => ?_
    have : h = 1 ∨ h = 2 ∨ h = 3 := by omega
    rcases this with rfl | rfl | rfl
    · exact Lane.tabR_99_1
    · exact Lane.tabR_99_2
    · exact Lane.tabR_99_3
end Go.Proofs.YtjfphobfikadlaaGreatDoor
namespace Go.Proofs.YtjfphobfikadlaaGreatDoor
open Go.RowKit Num

theorem deal_atM (p k : Nat) (sec rnd : List Int) (n j : Nat) (h : j < n) : shAt (dealL p k sec rnd n) j = (((j + 1 : Nat) : Int), (List.range sec.length).map (dealV p k (j + 1) sec rnd)) := by
  unfold dealL shAt
  rw [List.getD_eq_getElem?_getD, List.getElem?_map, List.getElem?_range h]; rfl
theorem dealt_lenM (p k : Nat) (sec rnd : List Int) (n : Nat) : (dealL p k sec rnd n).length = n := by simp [dealL]
/-- The polynomial of an element. -/
def polDM (k : Nat) (sec rnd : List Int) (i : Nat) : List Int := sec.getD i 0 :: (rnd.drop (i * k)).take k
/-- Shares that are values of polynomials. -/
structure FromDealM (p hold m : Nat) (P : Nat → List Int) (L : List Sh) : Prop where
  good : GoodSh p hold m L
  val : ∀ i k, i < m → k < L.length → (shAt L k).2.getD i 0 = evH p (shAt L k).1 (P i)
theorem FromDealM.deal {p k hold : Nat} {sec rnd : List Int} (hp : 1 ≤ p) : FromDealM p hold sec.length (polDM k sec rnd) (dealL p k sec rnd hold) where
  good := {
    holder := fun j hj => by rw [dealt_lenM] at hj; rw [deal_atM _ _ _ _ _ _ hj]; show (1 : Int) ≤ ((j + 1 : Nat) : Int) ∧ _; constructor <;> omega
    once := fun i j hi hj hne => by rw [dealt_lenM] at hi hj; rw [deal_atM _ _ _ _ _ _ hi, deal_atM _ _ _ _ _ _ hj]; show ((i + 1 : Nat) : Int) ≠ ((j + 1 : Nat) : Int); omega
    len := fun j hj => by rw [dealt_lenM] at hj; rw [deal_atM _ _ _ _ _ _ hj]; simp
    inF := fun j hj => by
      rw [dealt_lenM] at hj
      rw [deal_atM _ _ _ _ _ _ hj]
      intro i hi
      have hi' : i < sec.length := by simpa using hi
      have e : ((List.range sec.length).map (dealV p k (j + 1) sec rnd)).getD i 0 = dealV p k (j + 1) sec rnd i := by rw [List.getD_eq_getElem?_getD, List.getElem?_map, List.getElem?_range hi']; rfl
      rw [e]
      exact evH_bd p _ hp _ }
  val := fun i j hi hj => by
    rw [dealt_lenM] at hj
    rw [deal_atM _ _ _ _ _ _ hj]
    show ((List.range sec.length).map (dealV p k (j + 1) sec rnd)).getD i 0 = _
    rw [List.getD_eq_getElem?_getD, List.getElem?_map, List.getElem?_range hi]; rfl
theorem FromDealM.some {p hold m : Nat} {P : Nat → List Int} {L L' : List Sh} (h : FromDealM p hold m P L) (hs : Some_ L L') : FromDealM p hold m P L' := by
  obtain ⟨σ, h1, h2⟩ := hs
  refine ⟨⟨fun k hk => ?_, fun i j hi hj hne => ?_, fun k hk => ?_, fun k hk => ?_⟩, fun i k hi hk => ?_⟩
  · rw [(h1 k hk).2]; exact h.good.holder _ (h1 k hk).1
  · rw [(h1 i hi).2, (h1 j hj).2]; exact h.good.once _ _ (h1 i hi).1 (h1 j hj).1 (h2 i j hi hj hne)
  · rw [(h1 k hk).2]; exact h.good.len _ (h1 k hk).1
  · rw [(h1 k hk).2]; exact h.good.inF _ (h1 k hk).1
  · rw [(h1 k hk).2]; exact h.val i _ hi (h1 k hk).1
/-- What the polynomials give at 0 is the secret. -/
theorem sec_backM {p k m : Nat} {sec rnd : List Int} (hp : 1 ≤ p) (hs : InF p sec) (hm : sec.length = m) : ((List.range m).map fun i => ev (polDM k sec rnd i) 0 % (p : Int)) = sec := by
  apply List.ext_getElem
  · simpa using hm.symm
  · intro i h1 h2
    have hi' : i < m := by simpa using h1
    rw [List.getElem_map, List.getElem_range]
    show (sec.getD i 0 + 0 * _) % (p : Int) = _
    have := hs i (by omega)
    rw [Int.zero_mul, Int.add_zero, Int.emod_eq_of_lt this.1 this.2, List.getD_eq_getElem?_getD, List.getElem?_eq_getElem h2]; rfl
end Go.Proofs.YtjfphobfikadlaaGreatDoor
namespace Go.Proofs.YtjfphobfikadlaaGreatDoor
open Go.RowKit Num

theorem some_drop (L : List Sh) : Some_ L (L.drop 1) := by
  refine ⟨fun k => k + 1, fun k hk => ?_, fun i j _ _ h e => h (by have e' : i + 1 = j + 1 := e; omega)⟩
  have hk' : k < L.length - 1 := by simpa using hk
  refine ⟨by show k + 1 < L.length; omega, ?_⟩
  show shAt (L.drop 1) k = shAt L (k + 1)
  unfold shAt
  rw [List.getD_eq_getElem?_getD, List.getElem?_drop, Nat.add_comm 1 k, ← List.getD_eq_getElem?_getD]
theorem some_take (L : List Sh) : Some_ L (L.take 1) := by
  refine ⟨fun k => k, fun k hk => ?_, fun i j _ _ h e => h e⟩
  have hk' : k < 1 ∧ k < L.length := by rw [List.length_take] at hk; omega
  exact ⟨hk'.2, shAt_take L 1 k hk'.1⟩
/-- Some shares of dealt ones fit their marks. -/
theorem fit_some {p k hold : Nat} {sec rnd : List Int} {L' : List Sh} (hp : 1 ≤ p) (hp2 : p ≤ 1073741824) (hm : sec.length ≤ 1000) (hs : Some_ (dealL p k sec rnd hold) L') : Fit (marksL (dealL p k sec rnd hold)) L' := by
  obtain ⟨σ, h1, h2⟩ := hs
  have hg := (FromDealM.deal (k := k) (hold := hold) (sec := sec) (rnd := rnd) hp).good
  have hd := dealt_lenM p k sec rnd hold
  refine ⟨fun j hj => ?_, fun j hj => ?_, fun j hj => ?_⟩
  · have hsj := h1 j hj
    rw [hsj.2]
    have hlt : σ j < hold := by rw [← hd]; exact hsj.1
    refine ⟨σ j, by rw [deal_atM _ _ _ _ _ _ hlt]; rfl, by unfold marksL; rw [List.length_map, hd]; exact hlt, ?_⟩
    unfold marksL shAt
    rw [List.getD_eq_getElem?_getD, List.getElem?_map, List.getD_eq_getElem?_getD (l := dealL p k sec rnd hold), List.getElem?_eq_getElem hsj.1]; rfl
  · rw [(h1 j hj).2, hg.len _ (h1 j hj).1]; omega
  · rw [(h1 j hj).2]
    intro i hi
    have := hg.inF _ (h1 j hj).1 i hi
    omega
/-- So many of them as are needed give the secret. -/
theorem comb_some {p k hold : Nat} {sec rnd : List Int} {L' : List Sh} (hp : Prm p) (hh : hold < p) (fs : InF p sec) (hs : Some_ (dealL p k sec rnd hold) L') (hn : k + 1 ≤ L'.length) : combL p (k + 1) L' sec.length = sec := by
  have h1 := hp.1
  have hf := (FromDealM.deal (k := k) (hold := hold) (sec := sec) (rnd := rnd) (show 1 ≤ p by omega)).some hs
  rw [comb_back hp hh hf.good (by omega) hn (P := polDM k sec rnd) (fun i hi => by unfold polDM; simp [List.length_take]; omega) (fun i j hi hj => by rw [hf.val i j hi hj, evH_eq _ _ (by omega)])]
  exact sec_backM (p := p) (k := k) (sec := sec) (rnd := rnd) (by omega) fs rfl
/-- The key of the sanity check. -/
def keyA : ByteArray := ⟨#[48, 49, 50, 51, 52, 53, 54, 55, 56, 57, 97, 98, 99, 100, 101, 102]⟩
def secA : List Int := pack3 keyA.data.toList
def rndA : List Int := fillL 500000003 3 6
def LA : List Sh := dealL 500000003 1 secA rndA 3
theorem keyA_size : keyA.size = 16 := rfl
theorem secA_len : secA.length = 6 := by unfold secA; rw [pack3_len]; rfl
theorem pack3_in (l : List UInt8) (p : Nat) (h : 16777216 ≤ p) : InF p (pack3 l) := by
  intro k hk
  rw [pack3_len] at hk
  rw [pack3_get l k hk]
  have h1 := pk3_lt l k
  have h2 : 256 ^ min 3 (l.length - 3 * k) ≤ 256 ^ 3 := Nat.pow_le_pow_right (by decide) (by omega)
  have h3 : (256 : Nat) ^ 3 = 16777216 := by decide
  omega
theorem secA_in : InF 500000003 secA := pack3_in _ _ (by decide)
theorem rndA_in : InF 500000003 rndA := fillL_in _ _ _ (by decide)
theorem rndA_len : rndA.length = 6 := fillL_len _ _ _
theorem prmA : Prm 500000003 := safe_prm (by unfold Num.Safe; decide)
theorem LA_len : LA.length = 3 := dealt_lenM _ _ _ _ _
theorem marksA_len : (marksL LA).length = 3 := by unfold marksL; rw [List.length_map, LA_len]
theorem marks_32 (L : List Sh) : ∀ k, k < (marksL L).length → ((marksL L).getD k ⟨#[]⟩).size = 32 := fun k hk => by
  have hk' : k < L.length := by simpa [marksL] using hk
  have e : (marksL L).getD k ⟨#[]⟩ = markS (L[k]).1 (L[k]).2 := by
    unfold marksL; rw [List.getD_eq_getElem?_getD, List.getElem?_map, List.getElem?_eq_getElem hk']; rfl
  rw [e]; exact markS_size _ _
end Go.Proofs.YtjfphobfikadlaaGreatDoor
namespace Go.Proofs.YtjfphobfikadlaaGreatDoor
open Go.RowKit Num

theorem LK_len (key : ByteArray) (s : Nat) : (LK key s).length = 3 := dealt_lenM _ _ _ _ _
theorem LKm_len (key : ByteArray) (s : Nat) : (marksL (LK key s)).length = 3 := by unfold marksL; rw [List.length_map, LK_len]
theorem sec6 (key : ByteArray) (hk : key.size = 16) : (pack3 key.data.toList).length = 6 := by
  have : key.data.toList.length = 16 := hk
  rw [pack3_len, this]
theorem keepL_none (L : List Sh) (j : Nat) : keepL (fun _ => false) L j = [] := by
  unfold keepL
  rw [List.filter_eq_nil_iff.2 (by simp)]
  rfl
theorem GoodSh.nil (p hold m : Nat) : GoodSh p hold m [] := ⟨fun k h => absurd h (Nat.not_lt_zero k), fun i _ h => absurd h (Nat.not_lt_zero i), fun k h => absurd h (Nat.not_lt_zero k), fun k h => absurd h (Nat.not_lt_zero k)⟩
theorem rk_Make (key : ByteArray) (hk : key.size = 16) (s : Nat) (W : World) (hW : BasesOk W) (vr : Value) (T : Nat → Prop) (hv : IntsAt W T vr (fillL 500000003 s 6)) (hT : ∀ b, T b → b < W.heap.size) :
    Calls Tryz.prog 21 #[.agg #[.int .i64 500000003, .int .i64 2, .int .i64 3], .string key, vr] W fun e w' => ∃ vm vl, e = .returned (.tuple #[.agg #[.int .i64 500000003, .int .i64 2, .int .i64 3, .int .i64 0, vm, .string (shaOf key)], vl, .int .i64 0]) ∧ StrsAt w' (fun b => W.heap.size ≤ b ∧ b < w'.heap.size) vm (marksL (LK key s)) ∧ ShAt w' (fun b => W.heap.size ≤ b ∧ b < w'.heap.size) vl (LK key s) ∧ Below W.heap.size W w' :=
  (f_Make 500000003 1 3 key (pack3 key.data.toList) (fillL 500000003 s 6) vr W hW prmA (by decide) (by decide) (by decide) (by decide) hk
      (fun W' hW' => p_Pack3 500000003 key W' hW' prmA (by decide) (by decide) hk) (hv.mono hT) (pack3_in _ _ (by decide)) (fillL_in _ _ _ (by decide)) (by rw [sec6 key hk]; decide) (by rw [fillL_len, sec6 key hk])).mono fun e w' ⟨vm, vl, he, hvm, hvl, hb⟩ => ⟨vm, vl, he, StrsAt.of_own hvm, hvl.at_, hb⟩
theorem p_Unp (key : ByteArray) (hk : key.size = 16) (W : World) (u : Value) (U : Nat → Prop) (hW : BasesOk W) (hu : IntsAt W U u (pack3 key.data.toList)) (hU : ∀ b, U b → b < W.heap.size) :
    Calls Tryz.prog 73 #[.int .i64 ((500000003 : Nat) : Int), u, .int .i64 16] W fun e w' => e = .returned (.tuple #[.string key, .int .i64 0]) ∧ Below W.heap.size W w' := by
  have h := p_Unpack3 500000003 u key.data.toList U W hW prmA (by decide) (by decide) hu hU hk
  have ekey : (⟨key.data.toList.toArray⟩ : ByteArray) = key := by apply ByteArray.ext; simp
  rwa [ekey] at h
/-- Where all shares fit, and enough of them are there. -/
theorem rk_RecAll (ep : Int) (e0 : 0 ≤ ep) (e1 : ep ≤ 1099511627776) (key : ByteArray) (hk : key.size = 16) (s : Nat) (L' : List Sh) (hs : Some_ (LK key s) L') (h2 : 2 ≤ L'.length) (h3 : L'.length ≤ 16) (vm v : Value) (S T : Nat → Prop) (W : World) (hW : BasesOk W)
    (hv : ShAt W S v L') (hS : ∀ b, S b → b < W.heap.size) (hm : StrsAt W T vm (marksL (LK key s))) (hT : ∀ b, T b → b < W.heap.size) :
    Calls Tryz.prog 27 #[.agg #[.int .i64 500000003, .int .i64 2, .int .i64 3, .int .i64 ep, vm, .string (shaOf key)], v] W fun e w' => e = .returned (.tuple #[.string key, .int .i64 0]) ∧ Below W.heap.size W w' := by
  have hall : keepL (fun _ => true) L' L'.length = L' := by rw [keepL_all _ _ _ (Nat.le_refl _) fun _ _ => rfl, List.take_of_length_le (Nat.le_refl _)]
  have h6 := sec6 key hk
  have hf := fit_some (p := 500000003) (by decide) (by decide) (by rw [h6]; decide) hs
  have hgood := ((FromDealM.deal (p := 500000003) (k := 1) (hold := 3) (sec := pack3 key.data.toList) (rnd := fillL 500000003 s 6) (by decide)).some hs).good
  have hcomb := comb_some (p := 500000003) (k := 1) (hold := 3) (sec := pack3 key.data.toList) (rnd := fillL 500000003 s 6) prmA (by decide) (pack3_in _ _ (by decide)) hs h2
  rw [h6] at hgood hcomb
  have h := f_RecoverG ep e0 e1 (fun _ => true) 6 (pack3 key.data.toList) 500000003 2 3 vm v L' (marksL (LK key s)) key S T W hW prmA (by decide) (by decide) (by decide) (by decide) (by decide) (by decide) hv hS h3 (by omega) hm hT (LKm_len key s) (marks_32 _)
    ⟨fun k hk' => by obtain ⟨q, a, b, c⟩ := hf.at_ k hk'; exact ⟨q, a, b, fun _ => c, fun e => absurd e (by decide)⟩, hf.len, hf.nums⟩ (by rw [hall]; exact hgood) hk (fun W u U a b c => p_Unp key hk W u U a b c) (fun _ => by rw [hall]; exact hcomb)
  unfold RecPost at h
  rw [hall, if_neg (by omega), if_neg (by omega)] at h
  exact h
/-- Where no share fits. -/
theorem rk_RecNone (ep : Int) (e0 : 0 ≤ ep) (e1 : ep ≤ 1099511627776) (key : ByteArray) (hk : key.size = 16) (s t : Nat) (hne : ∀ j, j < 3 → markS (shAt (LK key s) j).1 (shAt (LK key s) j).2 ≠ markS (shAt (LK key t) j).1 (shAt (LK key t) j).2) (vm v : Value) (S T : Nat → Prop) (W : World) (hW : BasesOk W)
    (hv : ShAt W S v (LK key s)) (hS : ∀ b, S b → b < W.heap.size) (hm : StrsAt W T vm (marksL (LK key t))) (hT : ∀ b, T b → b < W.heap.size) :
    Calls Tryz.prog 27 #[.agg #[.int .i64 500000003, .int .i64 2, .int .i64 3, .int .i64 ep, vm, .string (shaOf key)], v] W fun e w' => e = .returned (.tuple #[.string ⟨#[]⟩, .int .i64 5]) ∧ Below W.heap.size W w' := by
  have h6 := sec6 key hk
  have hl := LK_len key s
  have hid : Some_ (LK key s) (LK key s) := ⟨fun k => k, fun k hk => ⟨hk, rfl⟩, fun i j _ _ h e => h e⟩
  have hf := fit_some (p := 500000003) (by decide) (by decide) (by rw [h6]; decide) hid
  have h := f_RecoverG ep e0 e1 (fun _ => false) 6 (pack3 key.data.toList) 500000003 2 3 vm v (LK key s) (marksL (LK key t)) key S T W hW prmA (by decide) (by decide) (by decide) (by decide) (by decide) (by decide) hv hS (by omega) (by omega) hm hT (LKm_len key t) (marks_32 _)
    ⟨fun k hk' => by
      rw [hl] at hk'
      refine ⟨k, by rw [LK_at key s k hk']; rfl, by rw [LKm_len]; exact hk', fun e => absurd e (by decide), fun _ => ?_⟩
      have e : (marksL (LK key t)).getD k ⟨#[]⟩ = markS (shAt (LK key t) k).1 (shAt (LK key t) k).2 := by
        have hlt : k < (LK key t).length := by rw [LK_len]; exact hk'
        unfold marksL shAt
        rw [List.getD_eq_getElem?_getD, List.getElem?_map, List.getD_eq_getElem?_getD (l := LK key t), List.getElem?_eq_getElem hlt]; rfl
      rw [e]; exact hne k hk', hf.len, hf.nums⟩ (by rw [keepL_none]; exact GoodSh.nil _ _ _) hk (fun W u U a b c => p_Unp key hk W u U a b c) (fun h => by rw [keepL_none] at h; exact absurd h (by decide))
  unfold RecPost at h
  rw [keepL_none, if_pos (by decide), if_pos (by decide)] at h
  exact h
end Go.Proofs.YtjfphobfikadlaaGreatDoor
