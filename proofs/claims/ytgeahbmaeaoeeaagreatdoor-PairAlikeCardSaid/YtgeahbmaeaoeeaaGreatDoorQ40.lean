/- Contract: law41.other: contents that look the same. Contracts: how many bytes one element holds, how many elements bytes are, how many random numbers a circle needs. -/
import Derived.Test.YtgeahbmaeaoeeaaGreatDoorQ29
import Derived.Test.YtgeahbmaeaoeeaaGreatDoorQ39
import Derived.Test.YtgeahbmaeaoeeaaGreatDoorQ38
set_option linter.unusedVariables false
set_option linter.unusedSimpArgs false
namespace Go.Proofs.YtgeahbmaeaoeeaaGreatDoor.Pa
open Go.RowKit Num

/-- While they are made: their statements' lists lie where the first contents' do: in old blocks, not in the dice's. -/
structure OSt (w W : World) (db : Nat) (v : Value) (L : List Cnt) : Prop where
  dc : Dc W db
  own : CntOwn W w.heap.size (fun b => b < w.heap.size ∧ b ≠ db) v L
  ok : ∀ x ∈ L, StmW x.st
  gw : w.grownBy W (some db)
  dlt : db < w.heap.size
/-- And one of them in a block of its own. -/
structure OR (w W : World) (db : Nat) (v : Value) (L : List Cnt) (g : Nat) (x : Cnt) : Prop where
  st : OSt w W db v L
  blk : Blk W g 63 (cntB x).toArray
  gl : w.heap.size ≤ g
  gn : v.ownBlock ≠ some g
section
variable {w W W' : World} {db g : Nat} {v v' : Value} {L : List Cnt} {x : Cnt}
theorem OSt.keep (h : OSt w W db v L) (hd : Dc W' db) {row : Option Nat} (hg : W.grownBy W' row) (hr : ∀ q, row = some q → q = db ∨ (w.heap.size ≤ q ∧ v.ownBlock ≠ some q)) : OSt w W' db v L := by
  have h1 := h.dlt
  have hs := h.gw.size
  have kr : v.ownBlock = none ∨ v.ownBlock ≠ row := by
    rcases hb : v.ownBlock with _ | q
    · exact .inl rfl
    · refine .inr fun e => ?_
      have := (h.own.row.lt q hb).1
      rcases hr q e.symm with e2 | e2
      · omega
      · exact e2.2 hb
  refine ⟨hd, h.own.keep hg kr fun b hb => ⟨by omega, fun e => ?_⟩, h.ok, ⟨hg.os.trans h.gw.os, hg.tape.trans h.gw.tape, hg.output.trans h.gw.output, Nat.le_trans hs hg.size, fun q hq hne => (hg.block q (by omega) (fun e => ?_)).trans (h.gw.block q hq hne)⟩, h1⟩
  · rcases hr b e with e2 | e2
    · exact hb.2 e2
    · omega
  · rcases hr q e.symm with e2 | e2
    · exact hne (by rw [e2])
    · omega
theorem OSt.src (h : OSt w W db v L) {u : Value} {M : List Cnt} (hu : CntsAt w (fun b => b < w.heap.size ∧ b ≠ db) u M) : CntsAt W (fun b => b < w.heap.size ∧ b ≠ db) u M :=
  hu.keep fun b hb => h.gw.block b hb.1 (fun e => hb.2 (Option.some.inj e))
theorem OR.start (h : OSt w W db v L) (x : Cnt) : OR w (W.alloc (.cells (cntB x).toArray 63)) db v L W.heap.size x :=
  ⟨h.keep (h.dc.alloc _) (World.grownBy_alloc W _ none) (fun q hq => by cases hq), Blk.new W _ _, h.gw.size, fun e => by have := (h.own.row.lt _ e).2; omega⟩
theorem OR.dice (h : OR w W db v L g x) (hd : Dc W' db) (hg : W.grownBy W' (some db)) : OR w W' db v L g x :=
  ⟨h.st.keep hd hg (fun q hq => .inl (Option.some.inj hq).symm), (hg.block _ h.blk.lt (fun e => by injection e; have := h.st.dlt; have := h.gl; omega)).trans h.blk, h.gl, h.gn⟩
theorem OR.drew (h : OR w W db v L g x) : OR w W.drew db v L g x :=
  ⟨h.st.keep h.st.dc.drew (row := none) (only_drewN (World.grownBy.refl W _) 1) (fun q hq => by cases hq), h.blk.drew, h.gl, h.gn⟩
theorem OR.below (h : OR w W db v L g x) (hb : Below W.heap.size W W') : OR w W' db v L g x :=
  ⟨h.st.keep (h.st.dc.keep fun q hq => hb.block q (by have := h.st.dc.lt; omega)) (row := none) (only_of_below hb none) (fun q hq => by cases hq), h.blk.below hb h.blk.lt, h.gl, h.gn⟩
theorem OR.cell (h : OR w W db v L g x) (i : Nat) : W.cell? ⟨g, i, none⟩ = (cntB x)[i]? := by
  rw [h.blk.cell i]; simp
theorem OR.frz (h : OR w W db v L g x) (i : Nat) : W.frozen? ⟨g, i, none⟩ = false := h.blk.frozen i
theorem OR.set (h : OR w W db v L g x) (i : Nat) (u : Value) (y : Cnt) (he : (cntB x).set i u = cntB y) : OR w (W.setCell ⟨g, i, none⟩ u) db v L g y := by
  have hset : W.grownBy (W.setCell ⟨g, i, none⟩ u) (some g) := grown_setCell W ⟨g, i, none⟩ u
  have h1 := h.gl
  have h2 := h.st.dlt
  refine ⟨h.st.keep (h.st.dc.keep fun q hq => hset.block q (by have := h.st.dc.lt; omega) (fun e => by injection e; omega)) hset (fun q hq => .inr ?_), ?_, h1, h.gn⟩
  · injection hq with hq
    subst hq
    exact ⟨h1, h.gn⟩
  · have := h.blk.set_ i u
    rw [← he]
    simpa using this
/-- A content is put behind the others. -/
theorem OSt.push (h : OSt w W db v L) (hx : StmAt w (fun b => b < w.heap.size ∧ b ≠ db) x.va x.vc x.vs x.st) (hok : StmW x.st) {o : Obj} (hown : W'.ownsRow w.heap.size 63 10 v' (L.length + 1) (cntC L ++ cntB x)) (hg : (W.alloc o).grownBy W' v.ownBlock) : OSt w W' db v' (L ++ [x]) := by
  have hs := hg.size
  simp only [World.size_alloc] at hs
  have h1 := h.dlt
  have h2 := h.gw.size
  have kb : ∀ q, q < W.heap.size → v.ownBlock ≠ some q → W'.heap[q]? = W.heap[q]? := fun q hq hne => (hg.block q (by simp; omega) (fun e => hne e.symm)).trans (Below.heap_alloc W o q hq)
  have kl : ∀ q, q < w.heap.size → W'.heap[q]? = W.heap[q]? := fun q hq => kb q (by omega) (fun e => by have := (h.own.row.lt q e).1; omega)
  refine ⟨h.dc.keep fun q hq => kl q (by omega), h.own.push (hx.keep fun b hb => h.gw.block b hb.1 (fun e => hb.2 (Option.some.inj e))) hown hg (fun b hb => ⟨by omega, fun e => by have := (h.own.row.lt b e).1; omega⟩), fun y hy => ?_, ⟨hg.os.trans h.gw.os, hg.tape.trans h.gw.tape, hg.output.trans h.gw.output, by omega, fun q hq hne => (kl q (by omega)).trans (h.gw.block q hq hne)⟩, h1⟩
  rcases List.mem_append.1 hy with e | e
  · exact h.ok y e
  · rw [List.mem_singleton.1 e]; exact hok
end
def OthE (w : World) (db : Nat) (e : Ending) (w' : World) : Prop := ∃ v L, e = .returned v ∧ CntOwn w' w.heap.size (fun b => b < w.heap.size ∧ b ≠ db) v L ∧ L.length ≤ 5 ∧ (∀ x ∈ L, StmW x.st) ∧ Dc w' db ∧ w.grownBy w' (some db)
theorem StmSm.w {s : Stm} (h : StmSm s) : StmW s := ⟨h.ok, fun t ht => by obtain ⟨_, _, _, _, c⟩ := h.cond t ht; omega⟩
theorem wrap64_id (n : Int) (h0 : -9223372036854775808 ≤ n) (h1 : n < 9223372036854775808) : IntKind.i64.wrap n = n := by rw [IntKind.wrap_i64]; omega
theorem stmW_with {s : Stm} (h : StmSm s) (X : ByteArray) (d y : Int) (hX : X.size ≤ 1000000) (hd : In64' d) (hy : In64' y) : StmW ⟨X, d, y, s.ans, s.cond, s.shw⟩ :=
  ⟨⟨hX, hd, hy, h.ok.an, h.ok.ans, h.ok.sn, h.ok.shw, h.ok.cn, h.ok.cond⟩, h.w.args⟩
set_option maxRecDepth 100000 in
set_option maxHeartbeats 8000000 in
theorem a_other (db : Nat) (v : Value) (L : List Cnt) (w : World) (hd : Dc w db) (hv : CntsAt w (fun b => b < w.heap.size ∧ b ≠ db) v L) (h5 : L.length ≤ 5) (hsm : ∀ x ∈ L, CntSm x) :
    Calls Tryz.prog 16 #[.pointer (some ⟨db, 0, none⟩), v, .int .i64 500000003] w (OthE w db) := by
  obtain ⟨i0, hi, hz0, hz1, hz2⟩ := info_parts infoCt
  obtain ⟨⟨A, n, c, rfl, hn, hnc, hA⟩, hsA⟩ := id hv
  have n5 : n ≤ 5 := by omega
  have hst : OSt w w db (.slice none 0 0) [] := ⟨hd, CntOwn.nil _ _ _, (fun x hx => by cases hx), World.grownBy.refl w _, hd.lt⟩
  have HO := Lib.hid hst
  have HA := Lib.hid hA
  have HSA := Lib.hid hsA
  have HSM := Lib.hid hsm
  have HN := Lib.hid hn
  have HN5 : Hid (∀ (W : World), Dc W db → Calls Tryz.prog 8 #[.pointer (some ⟨db, 0, none⟩), .int .i64 5] W fun e W' => ∃ r : Nat, r < 5 ∧ e = .returned (.int .i64 (r : Int)) ∧ Dc W' db ∧ W.grownBy W' (some db)) := Lib.hid fun W h => k_Next db 5 W h (by omega) (by omega)
  have HN3 : Hid (∀ (W : World), Dc W db → Calls Tryz.prog 8 #[.pointer (some ⟨db, 0, none⟩), .int .i64 3] W fun e W' => ∃ r : Nat, r < 3 ∧ e = .returned (.int .i64 (r : Int)) ∧ Dc W' db ∧ W.grownBy W' (some db)) := Lib.hid fun W h => k_Next db 3 W h (by omega) (by omega)
  have HN8 : Hid (∀ (W : World), Dc W db → Calls Tryz.prog 8 #[.pointer (some ⟨db, 0, none⟩), .int .i64 800] W fun e W' => ∃ r : Nat, r < 800 ∧ e = .returned (.int .i64 (r : Int)) ∧ Dc W' db ∧ W.grownBy W' (some db)) := Lib.hid fun W h => k_Next db 800 W h (by omega) (by omega)
  clear hv hA hsA hsm hn hd hst
  go_enter Tryz.func16, Tryz.ntmps16
  go_wp2_with fail
  go_loopw [7, 8, 9] (fun v7 v8 v9 wr => ∃ (i : Nat) (B : Option Addr) (cb : Nat) (M : List Cnt), i ≤ n ∧ v8 = .int .i64 (i : Int) ∧ v7 = .slice B i cb ∧ M.length = i ∧ OSt w wr db (.slice B i cb) M) (fun _ v8 _ _ => n - (intOf v8).toNat)
  case atStart => exact ⟨0, none, 0, [], by omega, rfl, rfl, rfl, HO.out⟩
  case round =>
    obtain ⟨i, B, cb, M, hin, rfl, rfl, hM, hr⟩ := hrel
    rename World => wr
    have HR := Lib.hid hr
    have HM := Lib.hid hM
    clear hr hM HO
    by_cases hlt : i < n
    · have iL : i < L.length := by have := HN.out; omega
      obtain ⟨b1, o1, rfl, hS1, hc1⟩ := HA.out (by omega)
      have hxs := HSA.out _ (List.getElem_mem iL)
      have okx := HSM.out _ (List.getElem_mem iL)
      have cx := hc1 i iL
      obtain ⟨x, hx⟩ : ∃ x, L[i]'iL = x := ⟨_, rfl⟩
      rw [hx] at hxs okx cx
      clear hx hc1
      obtain ⟨xn, xt, xo, xc, xs, va, vc, vs⟩ := x
      dsimp only at hxs
      obtain ⟨Aa, na, ca, hva, -⟩ := id hxs.aa
      obtain ⟨Ac, nc, cc, hvc, -⟩ := id hxs.cc
      obtain ⟨As, ns, cs, hvs, -⟩ := id hxs.ss
      subst hva hvc hvs
      have hold : ∀ j, wr.cell? ⟨b1, o1 + (i * 10 + j), none⟩ = w.cell? ⟨b1, o1 + (i * 10 + j), none⟩ := fun j => World.cell?_of_block (HR.out.gw.block b1 hS1.1 (fun e => hS1.2 (Option.some.inj e)))
      have e0 := (hold 0).trans (cx 0 (by decide))
      have e1 := (hold 1).trans (cx 1 (by decide))
      have e2 := (hold 2).trans (cx 2 (by decide))
      have e3 := (hold 3).trans (cx 3 (by decide))
      have e4 := (hold 4).trans (cx 4 (by decide))
      have e5 := (hold 5).trans (cx 5 (by decide))
      have e6 := (hold 6).trans (cx 6 (by decide))
      have e7 := (hold 7).trans (cx 7 (by decide))
      have e8 := (hold 8).trans (cx 8 (by decide))
      have e9 := (hold 9).trans (cx 9 (by decide))
      simp only [cntB, List.getElem?_cons_zero, List.getElem?_cons_succ, ← Nat.add_assoc, Nat.add_zero] at e0 e1 e2 e3 e4 e5 e6 e7 e8 e9
      have zi : (i : Int) < (n : Int) := by omega
      have z0 : (0 : Int) ≤ (i : Int) := by omega
      have h1 := OR.start HR.out ⟨xn, xt, xo, xc, xs, .slice Aa na ca, .slice Ac nc cc, .slice As ns cs⟩
      have H1 : Hid (OR w (wr.alloc (.cells #[.int .i64 xn, .int .i64 xt, .bool xo, .int .i64 xc, .string xs.resp, .int .i64 xs.dep, .int .i64 xs.day, .slice Aa na ca, .slice Ac nc cc, .slice As ns cs] 63)).drew db (.slice B i cb) M wr.heap.size ⟨xn, xt, xo, xc, xs, .slice Aa na ca, .slice Ac nc cc, .slice As ns cs⟩) := Lib.hid h1.drew
      have HXS := Lib.hid hxs
      have HOK := Lib.hid okx
      have hsc := okx.sec
      dsimp only at hsc
      have k3 : ((wr.alloc (.cells #[.int .i64 xn, .int .i64 xt, .bool xo, .int .i64 xc, .string xs.resp, .int .i64 xs.dep, .int .i64 xs.day, .slice Aa na ca, .slice Ac nc cc, .slice As ns cs] 63)).drew).cell? ⟨wr.heap.size, 3, none⟩ = some (.int .i64 xc) := H1.out.cell 3
      clear cx hold h1 hxs okx
      go_upto_region 6 with fail
      go_region_law (first
        | ((try go_simp); go_at_call 8; ((with_reducible refine (HN5.out _ H1.out.st.dc).mono ?_); rintro e w5 ⟨r5, hr5, rfl, hd5, hg5⟩; have H5 := Lib.hid (H1.out.dice hd5 hg5); have k35 : w5.cell? ⟨wr.heap.size, 3, none⟩ = some (.int .i64 xc) := H5.out.cell 3; have f35 := H5.out.frz 3; have q5 : IntKind.i64.wrap (xc + (r5 : Int)) = xc + (r5 : Int) := wrap64_id _ (by omega) (by omega); clear hd5 hg5)))
      all_goals
        obtain ⟨z, hz⟩ : ∃ z, (xc + (r5 : Int)).tmod 500000003 = z := ⟨_, rfl⟩
        rw [hz]
        clear hz
        have H6 : Hid (OR w (w5.setCell ⟨wr.heap.size, 3, none⟩ (.int .i64 z)) db (.slice B i cb) M wr.heap.size ⟨xn, xt, xo, z, xs, .slice Aa na ca, .slice Ac nc cc, .slice As ns cs⟩) := Lib.hid (H5.out.set 3 _ _ rfl)
        generalize w5.setCell ⟨wr.heap.size, 3, none⟩ (.int .i64 z) = w6 at H6 ⊢
        have m2 : w6.cell? ⟨wr.heap.size, 2, none⟩ = some (.bool xo) := H6.out.cell 2
        clear H1 H5 k3 k35 f35 q5 e0 e1 e2 e3 e4 e5 e6 e7 e8 e9 hr5
        have hdp := HOK.out.st.dep
        have hdy := HOK.out.st.day
        have hrp := HOK.out.st.resp
        dsimp only at hdp hdy hrp
        cases xo
        · have m4 : w6.cell? ⟨wr.heap.size, 4, none⟩ = some (.string xs.resp) := H6.out.cell 4
          go_wp2_with fail
          refine (a_turn xs.resp w6 (by omega)).mono ?_
          rintro e w7 ⟨X, hX, rfl, hb7⟩
          have H7 := Lib.hid (H6.out.below hb7)
          have m4 : w7.cell? ⟨wr.heap.size, 4, none⟩ = some (.string xs.resp) := H7.out.cell 4
          have f4 := H7.out.frz 4
          have H8 : Hid (OR w (w7.setCell ⟨wr.heap.size, 4, none⟩ (.string X)).drew db (.slice B i cb) M wr.heap.size ⟨xn, xt, false, z, ⟨X, xs.dep, xs.day, xs.ans, xs.cond, xs.shw⟩, .slice Aa na ca, .slice Ac nc cc, .slice As ns cs⟩) := Lib.hid (H7.out.set 4 (.string X) ⟨xn, xt, false, z, ⟨X, xs.dep, xs.day, xs.ans, xs.cond, xs.shw⟩, .slice Aa na ca, .slice Ac nc cc, .slice As ns cs⟩ rfl).drew
          clear hb7 H6 m2
          have k9 : (w7.setCell ⟨wr.heap.size, 4, none⟩ (.string X)).drew.cell? ⟨wr.heap.size, 5, none⟩ = some (.int .i64 xs.dep) := H8.out.cell 5
          go_upto_region 9 with fail
          go_region_law (first
            | ((try go_simp); go_at_call 8; ((with_reducible refine (HN3.out _ H8.out.st.dc).mono ?_); rintro e w9 ⟨r9, hr9, rfl, hdx, hgx⟩; have Hw9 := Lib.hid (H8.out.dice hdx hgx); have kk9 : w9.cell? ⟨wr.heap.size, 5, none⟩ = some (.int .i64 xs.dep) := Hw9.out.cell 5; have ff9 := Hw9.out.frz 5; have q9 : IntKind.i64.wrap (xs.dep + (r9 : Int)) = xs.dep + (r9 : Int) := wrap64_id _ (by omega) (by omega); clear hdx hgx)))
          all_goals
            obtain ⟨z9, hz9⟩ : ∃ z, (xs.dep + (r9 : Int)).tmod 3 = z := ⟨_, rfl⟩
            rw [hz9]
            have b9 : -3 < z9 ∧ z9 < 3 := by rw [← hz9]; exact ⟨Int.lt_tmod_of_pos _ (by omega), Int.tmod_lt_of_pos _ (by omega)⟩
            clear hz9
            have H10 : Hid (OR w (w9.setCell ⟨wr.heap.size, 5, none⟩ (.int .i64 z9)) db (.slice B i cb) M wr.heap.size ⟨xn, xt, false, z, ⟨X, z9, xs.day, xs.ans, xs.cond, xs.shw⟩, .slice Aa na ca, .slice Ac nc cc, .slice As ns cs⟩) := Lib.hid (Hw9.out.set 5 _ _ rfl)
            generalize w9.setCell ⟨wr.heap.size, 5, none⟩ (.int .i64 z9) = w10 at H10 ⊢
            have H10d : Hid (OR w w10.drew db (.slice B i cb) M wr.heap.size ⟨xn, xt, false, z, ⟨X, z9, xs.day, xs.ans, xs.cond, xs.shw⟩, .slice Aa na ca, .slice Ac nc cc, .slice As ns cs⟩) := Lib.hid H10.out.drew
            clear Hw9 kk9 ff9 q9 k9 H8 H7 m4 f4 H10
            have k10 : w10.drew.cell? ⟨wr.heap.size, 6, none⟩ = some (.int .i64 xs.day) := H10d.out.cell 6
            go_upto_region 10 with fail
            go_region_law (first
              | ((try go_simp); go_at_call 8; ((with_reducible refine (HN8.out _ H10d.out.st.dc).mono ?_); rintro e w11 ⟨r11, hr11, rfl, hdx, hgx⟩; have Hw11 := Lib.hid (H10d.out.dice hdx hgx); have kk10 : w11.cell? ⟨wr.heap.size, 6, none⟩ = some (.int .i64 xs.day) := Hw11.out.cell 6; have ff10 := Hw11.out.frz 6; have q10 : IntKind.i64.wrap (xs.day + (r11 : Int)) = xs.day + (r11 : Int) := wrap64_id _ (by omega) (by omega); obtain ⟨z11, hz11⟩ : ∃ z, (xs.day + (r11 : Int)).tmod 900 = z := ⟨_, rfl⟩; have b11 : -900 < z11 ∧ z11 < 900 := by { rw [← hz11]; exact ⟨Int.lt_tmod_of_pos _ (by omega), Int.tmod_lt_of_pos _ (by omega)⟩ }; have q11 : IntKind.i64.wrap (700000 + z11) = 700000 + z11 := wrap64_id _ (by omega) (by omega); clear hdx hgx)))
            all_goals
              have H12 : Hid (OR w (w11.setCell ⟨wr.heap.size, 6, none⟩ (.int .i64 (700000 + z11))) db (.slice B i cb) M wr.heap.size ⟨xn, xt, false, z, ⟨X, z9, 700000 + z11, xs.ans, xs.cond, xs.shw⟩, .slice Aa na ca, .slice Ac nc cc, .slice As ns cs⟩) := Lib.hid (Hw11.out.set 6 _ _ rfl)
              generalize w11.setCell ⟨wr.heap.size, 6, none⟩ (.int .i64 (700000 + z11)) = w12 at H12 ⊢
              clear Hw11 kk10 ff10 q10 k10 q11 H10d hz11
              have t0 : w12.cell? ⟨wr.heap.size, 0, none⟩ = some (.int .i64 xn) := H12.out.cell 0
              have t1 : w12.cell? ⟨wr.heap.size, 1, none⟩ = some (.int .i64 xt) := H12.out.cell 1
              have t2 : w12.cell? ⟨wr.heap.size, 2, none⟩ = some (.bool false) := H12.out.cell 2
              have t3 : w12.cell? ⟨wr.heap.size, 3, none⟩ = some (.int .i64 z) := H12.out.cell 3
              have t4 : w12.cell? ⟨wr.heap.size, 4, none⟩ = some (.string X) := H12.out.cell 4
              have t5 : w12.cell? ⟨wr.heap.size, 5, none⟩ = some (.int .i64 z9) := H12.out.cell 5
              have t6 : w12.cell? ⟨wr.heap.size, 6, none⟩ = some (.int .i64 (700000 + z11)) := H12.out.cell 6
              have t7 : w12.cell? ⟨wr.heap.size, 7, none⟩ = some (.slice Aa na ca) := H12.out.cell 7
              have t8 : w12.cell? ⟨wr.heap.size, 8, none⟩ = some (.slice Ac nc cc) := H12.out.cell 8
              have t9 : w12.cell? ⟨wr.heap.size, 9, none⟩ = some (.slice As ns cs) := H12.out.cell 9
              have row : w12.ownsRow w.heap.size 63 10 (.slice B i cb) i (cntC M) := by have := H12.out.st.own.row; rw [HM.out] at this; exact this
              have sw : w.heap.size ≤ w12.heap.size := H12.out.st.gw.size
              go_wp2_with (at_builtin; refine wpList_append_own_at _ rfl _ _ 52 rfl w.heap.size 63 i0 (.agg #[.int .i64 0, .int .i64 0, .bool false, .int .i64 0, .string ⟨#[]⟩, .int .i64 0, .int .i64 0, .slice none 0 0, .slice none 0 0, .slice none 0 0]) 10 136 Tryz.underlying52 hi hz0 hz1 hz2 rfl (by decide) _ _ _ rfl (row.alloc _) ⟨w12.heap.size, 0, none⟩ 1 1 [.int .i64 xn, .int .i64 xt, .bool false, .int .i64 z, .string X, .int .i64 z9, .int .i64 (700000 + z11), .slice Aa na ca, .slice Ac nc cc, .slice As ns cs] rfl rfl (World.news_of_block (cs := #[.int .i64 xn, .int .i64 xt, .bool false, .int .i64 z, .string X, .int .i64 z9, .int .i64 (700000 + z11), .slice Aa na ca, .slice Ac nc cc, .slice As ns cs]) (t := 63) (fr := (0, 0)) (heap_alloc_new w12 _)) (by intro u hu; simp at hu; rcases hu with rfl | rfl | rfl | rfl | rfl | rfl | rfl | rfl | rfl | rfl <;> rfl) (by unfold maxLen; omega) (by omega) (by simp; omega) ?_)
              intro v2 w3 hown2 hgrow2 _ _
              have hp := H12.out.st.push (x := ⟨xn, xt, false, z, ⟨X, z9, 700000 + z11, xs.ans, xs.cond, xs.shw⟩, .slice Aa na ca, .slice Ac nc cc, .slice As ns cs⟩) ⟨HXS.out.aa, HXS.out.cc, HXS.out.ss⟩ (stmW_with HOK.out.st X z9 (700000 + z11) (by omega) ⟨by omega, by omega⟩ ⟨by omega, by omega⟩) (by rw [HM.out]; exact hown2) hgrow2
              obtain ⟨A6, c6, rfl⟩ := own_slice hown2
              have HP := Lib.hid hp
              clear hown2 hgrow2 hp row t0 t1 t2 t3 t4 t5 t6 t7 t8 t9
              go_wp2_with fail
              go_roundw
              case measure => simp [intOf]; omega
              case rel => exact ⟨i + 1, A6, c6, M ++ [⟨xn, xt, false, z, ⟨X, z9, 700000 + z11, xs.ans, xs.cond, xs.shw⟩, .slice Aa na ca, .slice Ac nc cc, .slice As ns cs⟩], by omega, by go_num, rfl, by rw [List.length_append, HM.out]; rfl, HP.out⟩
        · have t0 : w6.cell? ⟨wr.heap.size, 0, none⟩ = some (.int .i64 xn) := H6.out.cell 0
          have t1 : w6.cell? ⟨wr.heap.size, 1, none⟩ = some (.int .i64 xt) := H6.out.cell 1
          have t2 : w6.cell? ⟨wr.heap.size, 2, none⟩ = some (.bool true) := H6.out.cell 2
          have t3 : w6.cell? ⟨wr.heap.size, 3, none⟩ = some (.int .i64 z) := H6.out.cell 3
          have t4 : w6.cell? ⟨wr.heap.size, 4, none⟩ = some (.string xs.resp) := H6.out.cell 4
          have t5 : w6.cell? ⟨wr.heap.size, 5, none⟩ = some (.int .i64 xs.dep) := H6.out.cell 5
          have t6 : w6.cell? ⟨wr.heap.size, 6, none⟩ = some (.int .i64 xs.day) := H6.out.cell 6
          have t7 : w6.cell? ⟨wr.heap.size, 7, none⟩ = some (.slice Aa na ca) := H6.out.cell 7
          have t8 : w6.cell? ⟨wr.heap.size, 8, none⟩ = some (.slice Ac nc cc) := H6.out.cell 8
          have t9 : w6.cell? ⟨wr.heap.size, 9, none⟩ = some (.slice As ns cs) := H6.out.cell 9
          have row : w6.ownsRow w.heap.size 63 10 (.slice B i cb) i (cntC M) := by have := H6.out.st.own.row; rw [HM.out] at this; exact this
          have sw : w.heap.size ≤ w6.heap.size := H6.out.st.gw.size
          go_wp2_with (at_builtin; refine wpList_append_own_at _ rfl _ _ 52 rfl w.heap.size 63 i0 (.agg #[.int .i64 0, .int .i64 0, .bool false, .int .i64 0, .string ⟨#[]⟩, .int .i64 0, .int .i64 0, .slice none 0 0, .slice none 0 0, .slice none 0 0]) 10 136 Tryz.underlying52 hi hz0 hz1 hz2 rfl (by decide) _ _ _ rfl (row.alloc _) ⟨w6.heap.size, 0, none⟩ 1 1 [.int .i64 xn, .int .i64 xt, .bool true, .int .i64 z, .string xs.resp, .int .i64 xs.dep, .int .i64 xs.day, .slice Aa na ca, .slice Ac nc cc, .slice As ns cs] rfl rfl (World.news_of_block (cs := #[.int .i64 xn, .int .i64 xt, .bool true, .int .i64 z, .string xs.resp, .int .i64 xs.dep, .int .i64 xs.day, .slice Aa na ca, .slice Ac nc cc, .slice As ns cs]) (t := 63) (fr := (0, 0)) (heap_alloc_new w6 _)) (by intro u hu; simp at hu; rcases hu with rfl | rfl | rfl | rfl | rfl | rfl | rfl | rfl | rfl | rfl <;> rfl) (by unfold maxLen; omega) (by omega) (by simp; omega) ?_)
          intro v2 w3 hown2 hgrow2 _ _
          have hp := H6.out.st.push (x := ⟨xn, xt, true, z, xs, .slice Aa na ca, .slice Ac nc cc, .slice As ns cs⟩) ⟨HXS.out.aa, HXS.out.cc, HXS.out.ss⟩ HOK.out.st.w (by rw [HM.out]; exact hown2) hgrow2
          obtain ⟨A6, c6, rfl⟩ := own_slice hown2
          have HP := Lib.hid hp
          clear hown2 hgrow2 hp row t0 t1 t2 t3 t4 t5 t6 t7 t8 t9
          go_wp2_with fail
          go_roundw
          case measure => simp [intOf]; omega
          case rel => exact ⟨i + 1, A6, c6, M ++ [⟨xn, xt, true, z, xs, .slice Aa na ca, .slice Ac nc cc, .slice As ns cs⟩], by omega, by go_num, rfl, by rw [List.length_append, HM.out]; rfl, HP.out⟩
    · have zi : ¬ (i : Int) < (n : Int) := by omega
      go_wp2_with fail
      go_ret
      exact ⟨_, M, rfl, HR.out.own, by have := HM.out; omega, HR.out.ok, HR.out.dc, HR.out.gw⟩
end Go.Proofs.YtgeahbmaeaoeeaaGreatDoor.Pa
