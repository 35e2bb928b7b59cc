/- Run by the kernel: the marks of the new circles against those of the first one (salt 99). The dice's salts are three; the marks of the new circles' shares are others than those of the first one's. -/
import Derived.Test.YtjfphobfikadlaaGreatDoorW28
import Derived.Test.YtjfphobfikadlaaGreatDoorW26
import Derived.Test.YtjfphobfikadlaaGreatDoorW29
set_option linter.unusedVariables false
set_option linter.unusedSimpArgs false
set_option maxRecDepth 1000000
namespace Go.Proofs.YtjfphobfikadlaaGreatDoor.Lane
theorem tabR_99_1 : grp1 500000003 1 1 6 1 sec3_99 2 1000 1 = true := by decide +kernel
theorem tabR_99_2 : grp1 500000003 2 1 6 1 sec3_99 2 1000 1 = true := by decide +kernel
theorem tabR_99_3 : grp1 500000003 3 1 6 1 sec3_99 2 1000 1 = true := by decide +kernel
end Go.Proofs.YtjfphobfikadlaaGreatDoor.Lane
namespace Go.Proofs.YtjfphobfikadlaaGreatDoor
open Go.RowKit Num

/-- A salt of the dice. -/
def IsSalt (s : ByteArray) : Prop := s = Lane.saltB 97 ∨ s = Lane.saltB 98 ∨ s = Lane.saltB 99
def SaltPost3 (b : Nat) (w : World) (e : Ending) (w' : World) : Prop := ∃ s0 : ByteArray, IsSalt s0 ∧ s0.size = 16 ∧ e = .returned (.string s0) ∧ Dc w' b ∧ w.grownBy w' (some b)
set_option maxRecDepth 100000 in
set_option maxHeartbeats 1000000 in
theorem k_Salt3 (b : Nat) (w : World) (hd : Dc w b) :
    Calls Tryz.prog 20 #[.pointer (some ⟨b, 0, none⟩)] w (SaltPost3 b w) := by
  have hlt := hd.lt
  have kb : Blk (w.alloc (.cells #[.string ⟨#[97]⟩, .string ⟨#[98]⟩, .string ⟨#[99]⟩] 9)) w.heap.size 9 #[.string ⟨#[97]⟩, .string ⟨#[98]⟩, .string ⟨#[99]⟩] := Blk.new w _ _
  obtain ⟨ss, hss, hsm⟩ : ∃ ss : Nat → ByteArray, (∀ i, i < 3 → (w.alloc (.cells #[.string ⟨#[97]⟩, .string ⟨#[98]⟩, .string ⟨#[99]⟩] 9)).cell? ⟨w.heap.size, 0 + i, none⟩ = some (.string (ss i))) ∧ ∀ r, r < 3 → ss r = ⟨#[97]⟩ ∨ ss r = ⟨#[98]⟩ ∨ ss r = ⟨#[99]⟩ := by
    refine ⟨fun i => if i = 0 then ⟨#[97]⟩ else if i = 1 then ⟨#[98]⟩ else ⟨#[99]⟩, fun i hi => ?_, fun r hr => ?_⟩
    · rw [Nat.zero_add, kb.cell i]
      match i, hi with
      | 0, _ => rfl
      | 1, _ => rfl
      | 2, _ => rfl
    · match r, hr with
      | 0, _ => exact .inl rfl
      | 1, _ => exact .inr (.inl rfl)
      | 2, _ => exact .inr (.inr rfl)
  have ho := k_Word b w.heap.size 0 3 3 ss _ (hd.alloc (.cells #[.string ⟨#[97]⟩, .string ⟨#[98]⟩, .string ⟨#[99]⟩] 9)) (by simp) (by omega) (by decide) (by decide) hss
  have HO := Lib.hid ho
  have HS := Lib.hid hsm
  clear ho kb hd hsm hss
  go_enter Tryz.func20, Tryz.ntmps20
  go_wp2_with fail
  refine HO.out.mono ?_
  rintro e w1 ⟨r, hr, rfl, hd1, hg1⟩
  have hq := HS.out r hr
  have hsz : (ss r).size = 1 := by rcases hq with h | h | h <;> rw [h] <;> rfl
  have HQ := Lib.hid hq
  clear hq
  generalize ss r = q at *
  have hz : ((⟨#[115, 97, 108, 116]⟩ : ByteArray) ++ q).size < 4294967296 := by rw [ByteArray.size_append, hsz]; decide
  have hs := rf_Sum ((⟨#[115, 97, 108, 116]⟩ : ByteArray) ++ q) w1 hz
  have HSU := Lib.hid hs
  have HD1 := Lib.hid hd1
  have HG1 := Lib.hid hg1
  clear hd1 hg1 hs hz
  go_wp2_with fail
  refine HSU.out.mono ?_
  rintro e w2 ⟨rfl, hb2⟩
  have h32 := shaOf_size ((⟨#[115, 97, 108, 116]⟩ : ByteArray) ++ q)
  have HD2 := Lib.hid (HD1.out.below hb2 HD1.out.lt)
  have HG2 := Lib.hid (gb_trans HG1.out (only_of_below hb2 _))
  clear hb2
  have HZ : Hid (IsSalt ((shaOf ((⟨#[115, 97, 108, 116]⟩ : ByteArray) ++ q)).extract 0 16)) := Lib.hid (by
    rcases HQ.out with h | h | h <;> rw [h]
    · exact .inl rfl
    · exact .inr (.inl rfl)
    · exact .inr (.inr rfl))
  generalize shaOf ((⟨#[115, 97, 108, 116]⟩ : ByteArray) ++ q) = z at *
  go_wp2_with fail
  go_ret
  exact ⟨_, HZ.out, by rw [ByteArray.size_extract]; omega, rfl, HD2.out, gb_trans (only_alloc (World.grownBy.refl w _) _) HG2.out⟩
/-- The shares of the law's circles. -/
def LK (key : ByteArray) (s : Nat) : List Sh := dealL 500000003 1 (pack3 key.data.toList) (fillL 500000003 s 6) 3
theorem LK_at (key : ByteArray) (s j : Nat) (hj : j < 3) : shAt (LK key s) j = (((j + 1 : Nat) : Int), (List.range (pack3 key.data.toList).length).map (dealV 500000003 1 (j + 1) (pack3 key.data.toList) (fillL 500000003 s 6))) := by
  unfold LK dealL shAt; rw [List.getD_eq_getElem?_getD, List.getElem?_map, List.getElem?_range hj]; rfl
theorem LK_mark (key : ByteArray) (sec : List Nat) (h6 : sec.length = 6) (hk : pack3 key.data.toList = Lane.toI sec) (s j : Nat) (hj : j < 3) :
    markS (shAt (LK key s) j).1 (shAt (LK key s) j).2 = shaOf (Lane.mbB 500000003 s (j + 1) 1 0 sec) := by
  rw [LK_at key s j hj, hk, Lane.toI_len]
  show markS ((j + 1 : Nat) : Int) ((List.range sec.length).map (dealV 500000003 1 (j + 1) (Lane.toI sec) (fillL 500000003 s 6))) = _
  rw [Lane.vals_eq 500000003 s (j + 1) 1 6 sec (by decide) (by omega), Lane.mark_eq 500000003 s (j + 1) 1 0 sec (by decide) (by decide) (by omega) (by omega)]
theorem rep_ne (key : ByteArray) (hk : IsSalt key) (r j : Nat) (hr : r < 1000) (hj : j < 3) : markS (shAt (LK key 1) j).1 (shAt (LK key 1) j).2 ≠ markS (shAt (LK key (2 + r)) j).1 (shAt (LK key (2 + r)) j).2 := by
  have fin : ∀ (sec : List Nat), sec.length = 6 → pack3 key.data.toList = Lane.toI sec → (∀ h, 1 ≤ h → h ≤ 3 → Lane.grp1 500000003 h 1 6 1 sec 2 1000 1 = true) → markS (shAt (LK key 1) j).1 (shAt (LK key 1) j).2 ≠ markS (shAt (LK key (2 + r)) j).1 (shAt (LK key (2 + r)) j).2 := fun sec h6 he hg => by
    rw [LK_mark key sec h6 he 1 j hj, LK_mark key sec h6 he (2 + r) j hj]
    exact fun e => Lane.grp1_ok 500000003 (j + 1) 1 6 1 sec 2 1000 1 (by decide) (by decide) (by omega) h6 (by decide) (fun d s0 => Lane.mbL_len _ _ _ _ _ _ (by omega)) (hg (j + 1) (by omega) (by omega)) r hr e.symm
  rcases hk with rfl | rfl | rfl
  · refine fin Lane.sec3_97 rfl Lane.pk3_97 fun h h1 h2 => ?_
    have : h = 1 ∨ h = 2 ∨ h = 3 := by omega
    rcases this with rfl | rfl | rfl
    · exact Lane.tabR_97_1
    · exact Lane.tabR_97_2
    · exact Lane.tabR_97_3
  · refine fin Lane.sec3_98 rfl Lane.pk3_98 fun h h1 h2 => ?_
    have : h = 1 ∨ h = 2 ∨ h = 3 := by omega
    rcases this with rfl | rfl | rfl
    · exact Lane.tabR_98_1
    · exact Lane.tabR_98_2
    · exact Lane.tabR_98_3
  · refine fin Lane.sec3_99 rfl Lane.pk3_99 fun h h1 h2 => ?_
    have : h = 1 ∨ h = 2 ∨ h = 3 := by omega
    rcases this with rfl | rfl | rfl
    · exact Lane.tabR_99_1
    · exact Lane.tabR_99_2
    · exact Lane.tabR_99_3
end Go.Proofs.YtjfphobfikadlaaGreatDoor
