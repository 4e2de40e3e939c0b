/- The walk of WholeTurned. -/
import Derived.Test.YtmfgffmlnfimcaaDoorZ
import Derived.Deep.RegionWith
import Derived.Deep.DeepCutAuto
namespace Go.Proofs.YtmfgffmlnfimcaaDoor
open Go Go.RowKit Go.Shelf Go.Sort

/-- The costs while they are turned. -/
def turnC (I : Inst) (a b : Nat) : Nat → Nat → Int := fun x y => if x < a ∨ (x = a ∧ y < b) then elt I y x else elt I x y
theorem turnC_zero (I : Inst) (x y : Nat) : turnC I 0 0 x y = elt I x y := by unfold turnC; rw [if_neg (by omega)]
theorem turnC_step (I : Inst) (a b x y : Nat) : upd (turnC I a b) a (upd (turnC I a b a) b (elt I b a)) x y = turnC I a (b + 1) x y := by
  by_cases e : x = a
  · subst e
    rw [upd_same]
    by_cases e2 : y = b
    · subst e2; rw [upd_same]; unfold turnC; rw [if_pos (by omega)]
    · rw [upd_other _ e2]; unfold turnC
      by_cases h : y < b
      · rw [if_pos (by omega), if_pos (by omega)]
      · rw [if_neg (by omega), if_neg (by omega)]
  · rw [upd_other _ e]; unfold turnC
    by_cases h : x < a
    · rw [if_pos (by omega), if_pos (by omega)]
    · rw [if_neg (by omega), if_neg (by omega)]
theorem turnC_row (I : Inst) {n : Nat} (a x y : Nat) (hy : y < n) : turnC I a n x y = turnC I (a + 1) 0 x y := by
  unfold turnC
  by_cases h : x < a + 1
  · rw [if_pos (by omega), if_pos (by omega)]
  · rw [if_neg (by omega), if_neg (by omega)]
theorem turnC_all (I : Inst) {n : Nat} (x y : Nat) (hx : x < n) : turnC I n 0 x y = elt I y x := by unfold turnC; rw [if_pos (by omega)]

theorem turn_elt (I : Inst) (n : Nat) : ∀ a b, a < n → b < n → elt (setC I n (turnC I n 0)) a b = elt I b a := fun a b ha hb => by rw [elt_setC I _ ha hb, turnC_all I a b ha]

theorem turned2_fin {I : Inst} (hk : I.kind = 2) {n : Nat} (hn : I.n = (n : Int)) {x y : List Int} (hx : Opt I x) (hy : Opt (setC I n (turnC I n 0)) y) {zf : Nat → Int} (hz : ∀ j, j < n → zf (y.getD j 0).toNat = (j : Nat)) :
    ∃ z : Nat → Nat, (∀ j, j < n → zf j = (z j : Nat)) ∧ Feas I (natL n z) ∧ costOf I (natL n z) = costOf I x := by
  have iy := hy.1.inj (I := setC I n (turnC I n 0)) hn (show I.kind ≠ 1 by omega)
  obtain ⟨z, h1, h2, h3⟩ := iy.back
  refine ⟨z, fun j hj => ?_, feas2 hk hn h1, ?_⟩
  · have := hz (z j) (h1.1 j hj)
    rwa [h3 j hj] at this
  · rw [turned2_eq hk (J := setC I n (turnC I n 0)) hk hn hn (turn_elt I n) hx hy, cost2 hk hn, cost2 (I := setC I n (turnC I n 0)) hk hn, ← turned2 hk (J := setC I n (turnC I n 0)) hk hn hn (turn_elt I n) iy h2]
    exact sumTo_congr fun j hj => by rw [natL_get z hj, Int.toNat_natCast]
theorem turned3_fin {I : Inst} (hk : I.kind = 3) {n : Nat} (hn : I.n = (n : Int)) (hn0 : 0 < n) {x y : List Int} (hx : Opt I x) (hy : Opt (setC I n (turnC I n 0)) y) {zf : Nat → Int} (hz : ∀ j, j < n → zf ((n - j) % n) = ((y.getD j 0).toNat : Nat)) :
    ∃ z : Nat → Nat, (∀ j, j < n → zf j = (z j : Nat)) ∧ Feas I (natL n z) ∧ costOf I (natL n z) = costOf I x := by
  have iy := hy.1.inj (I := setC I n (turnC I n 0)) hn (show I.kind ≠ 1 by omega)
  have h1 : Inj n fun j => (y.getD ((n - j) % n) 0).toNat := iy.comp (rev_inj hn0)
  have h0 : y.getD 0 0 = 0 := (hy.1.2 (show I.kind ≠ 1 by omega)).2 hk
  refine ⟨fun j => (y.getD ((n - j) % n) 0).toNat, fun j hj => ?_, feas3 hk hn hn0 h1 (by show (y.getD ((n - 0) % n) 0).toNat = 0; rw [Nat.sub_zero, Nat.mod_self, h0]; rfl), ?_⟩
  · have hm := Nat.mod_lt (n - j) hn0
    have := hz ((n - j) % n) hm
    have e : (n - (n - j) % n) % n = j := by
      by_cases h : j = 0
      · rw [h, Nat.sub_zero, Nat.mod_self, Nat.sub_zero, Nat.mod_self]
      · rw [Nat.mod_eq_of_lt (show n - j < n by omega), show n - (n - j) = j by omega, Nat.mod_eq_of_lt hj]
    rwa [e] at this
  · rw [turned3_eq hk (J := setC I n (turnC I n 0)) hk hn0 hn hn (turn_elt I n) hx hy, cost3 hk hn, cost3 (I := setC I n (turnC I n 0)) hk hn, ← tc_rev (elt I) (elt (setC I n (turnC I n 0))) hn0 (turn_elt I n) iy.1]
    exact tc_congr hn0 (fun j hj => by rw [natL_get _ hj, Int.toNat_natCast]) (fun _ _ _ _ => rfl) (fun j hj => by rw [natL_get _ hj, Int.toNat_natCast]; exact h1.1 j hj)

/-- Rows by number. -/
def RowSet (n : Nat) (r : Nat → Nat) (k : Nat) : Prop := ∃ j, j < n ∧ k = r j

set_option maxHeartbeats 2000000 in
theorem turned_2 (I : Inst) (hI : WF I) (hL : isLarge I = true) (hk : I.kind = 2) (v : Value) (w : World) (hv : InstAt w v I) (hT : TabW w) : Calls Tryd.prog 6 #[v] w fun e w' => e = .returned (.bool true) ∧ Below w.heap.size w w' := by
  obtain ⟨n, hn, hn1, hn24, -, hlen, -, hws, hvs, hrow, hok, hdiag⟩ := hI.rows (by omega)
  have hlim := large_lim hL
  have HS := Lib.hid (fun W => stands_any W)
  have HLG := Lib.hid (fun W hv => large_true I hI hL v W hv)
  have HCP := Lib.hid (fun W hv => copy_mat I hI hk (by decide) hn v W hv)
  have HBI := Lib.hid (fun W hv hT => topbest_any I hI hlim v W hv hT)
  have HCO := Lib.hid (fun W A c x hv hA hx => cost_any I hI v A c x W hv hA hx)
  have hJ : WF (setC I n (turnC I n 0)) := hI.setC hn (by omega) (fun a b ha hb => by rw [turnC_all I a b ha]; exact hok b a hb ha) (fun e a ha => by rw [turnC_all I a a ha]; exact hdiag e a ha)
  have hJL : Lim (setC I n (turnC I n 0)) := hlim
  have HBJ := Lib.hid (fun W v hv hT => topbest_any (setC I n (turnC I n 0)) hJ hJL v W hv hT)
  have hIJ := fun W B g r cp c A8 A11 c8 c11 (hM : Mat W B g n r cp (turnC I n 0)) (hc : n ≤ c) => instAt_mat (A8 := A8) (A11 := A11) (c8 := c8) (c11 := c11) hI (by omega) hn hn24 hM hc
  rw [hk, hn, show I.cap = 0 by obtain ⟨_, _, _, _, _, _, h, _⟩ := hI.rows (show I.kind ≠ 1 by omega); exact h] at hIJ
  have HIJ := Lib.hid hIJ
  have HI := Lib.hid hI
  have HK := Lib.hid hk
  have HN := Lib.hid hn
  have HRL := Lib.hid hrow
  have HCL := Lib.hid hlen
  have HV := Lib.hid hv
  have HT := Lib.hid hT
  have hb : ∀ o : Obj, Below w.heap.size w (w.alloc o) := fun o => (Below.refl _ _).alloc (Nat.le_refl _) o
  have HB := Lib.hid hb
  have HEQ := Lib.hid (fun x y (hx : Opt I x) (hy : Opt (setC I n (turnC I n 0)) y) => turned2_eq  (I := I) (J := setC I n (turnC I n 0)) hk hk  hn hn (fun a b ha hb => by rw [elt_setC I _ ha hb, turnC_all I a b ha]) hx hy)
  obtain ⟨A1, c1, A2, c2, A3, c3, rfl, hc3, h10⟩ := hv.mform hI hk (by decide) hn
  have H10 := Lib.hid h10
  clear hI hL hk hv hT hlim hJ hJL hIJ hn hrow hlen hws hvs hok hdiag hb h10
  go_enter Tryd.func6, Tryd.ntmps6
  go_wp2_with fail
  refine (HS.out _).mono ?_
  rintro e w1 ⟨rfl, hb1⟩
  have hB1 := keep_box hb1
  obtain ⟨hc1, hf1⟩ := bcell hb1
  have hbx1 := heap_keep (heap_new w (.cells #[.int .i64 2, .int .i64 (n : Int), .int .i64 0, .slice A1 0 c1, .slice A2 0 c2, .slice A3 n c3] 25 (0, 0)) _ rfl) hb1
  have HX1 := Lib.hid hbx1
  have HB1 := Lib.hid hB1
  clear hb1 hB1 hbx1
  go_wp2_with fail
  refine (HLG.out _ (HV.out.keep HB1.out)).mono ?_
  rintro e w2 ⟨rfl, hb2⟩
  have hbx2 := heap_keep HX1.out hb2
  have HX2 := Lib.hid hbx2
  have HB2 := Lib.hid (keep_trans HB1.out hb2)
  have y0 := blk_cell hbx2 0
  have y1 := blk_cell hbx2 1
  have y2 := blk_cell hbx2 2
  have y3 := blk_cell hbx2 3
  have y4 := blk_cell hbx2 4
  have y5 := blk_cell hbx2 5
  clear hc1 hf1 hb2 hbx2 HX1 HB1
  go_wp2_with fail
  refine (HCP.out _ (HV.out.keep HB2.out)).mono ?_
  rintro e w3 ⟨A8, c8, A11, c11, g, c5, r, cp, B, rfl, hcc5, hBB, hM, hb3⟩
  have hws := HB2.out.size
  have hxl := heap_lt HX2.out
  have HX3 := Lib.hid (heap_keep HX2.out hb3)
  have HB3 := Lib.hid (keep_trans HB2.out hb3)
  have HM := Lib.hid hM
  clear y0 y1 y2 y3 y4 y5 hM hb3 HX2 HB2
  go_wp2
  go_loopg [4] n (fun gg v4 wr => ∃ a : Nat, v4 = .int .i64 a ∧ a + gg = n ∧ Hid (Mat wr B g n r cp (turnC I a 0)) ∧ Hid (Keep (RowSet n r) (w3.alloc (.cells #[.int .i64 2, .int .i64 (n : Int), .int .i64 0, .slice A8 0 c8, .slice A11 0 c11, .slice (some ⟨g, 0, none⟩) n c5] 25 (0, 0))) wr))
  case atStart => exact ⟨0, rfl, by omega, Lib.hid ((HM.out.below ((Below.refl _ _).alloc (Nat.le_refl _) _)).congr fun a b _ _ => (turnC_zero I a b).symm), Lib.hid (Keep.refl _ _)⟩
  case round =>
    obtain ⟨a, rfl, ha, HMr, HKr⟩ := hrel
    have hx1 : ¬ RowSet n r w.heap.size := fun ⟨j, hj, e⟩ => by have := (HM.out.far j hj).2.1; omega
    have hx3 : ¬ RowSet n r w3.heap.size := fun ⟨j, hj, e⟩ => by have := (HM.out.arr j hj).lt; omega
    have hbi := HKr.out.heap (heap_old' HX3.out _) hx1
    have hbj := HKr.out.heap (heap_new w3 _ _ rfl) hx3
    have y0 := blk_cell hbi 0
    have y1 := blk_cell hbi 1
    have y2 := blk_cell hbi 2
    have y3 := blk_cell hbi 3
    have y4 := blk_cell hbi 4
    have y5 := blk_cell hbi 5
    have hBw : Below w.heap.size w wr := (HB3.out.trans ((HKr.out.below (B := w.heap.size) (by have := HB3.out.size; simp; omega) (fun k hk ⟨j, hj, e⟩ => by have := (HM.out.far j hj).2.1; omega)).trans (Below.refl _ _) |> fun h => ((Below.refl _ _).alloc (by have := HB3.out.size; exact this) _).trans h))
    have HBw := Lib.hid hBw
    have HXi := Lib.hid hbi
    have HXj := Lib.hid hbj
    clear hbi hbj hBw hx1 hx3
    by_cases ca : a < n
    · have hai : (a : Int) < (n : Int) := by omega
      go_wp2
      obtain ⟨gL, rfl⟩ : ∃ g : Nat, g = gk := ⟨_, rfl⟩
      go_loopg [5] n (fun gg v5 wq => ∃ b : Nat, v5 = .int .i64 b ∧ b + gg = n ∧ Hid (Mat wq B g n r cp (turnC I a b)) ∧ Hid (Keep (RowSet n r) wr wq))
      case atStart => exact ⟨0, rfl, by omega, HMr, Lib.hid (Keep.refl _ _)⟩
      case round =>
        clear y0 y1 y2 y3 y4 y5
        obtain ⟨b, rfl, hb, HMq, HKq⟩ := hrel
        have hx1 : ¬ RowSet n r w.heap.size := fun ⟨j, hj, e⟩ => by have := (HM.out.far j hj).2.1; omega
        have hx3 : ¬ RowSet n r w3.heap.size := fun ⟨j, hj, e⟩ => by have := (HM.out.arr j hj).lt; omega
        have hbi := HKq.out.heap HXi.out hx1
        have hbj := HKq.out.heap HXj.out hx3
        have y1 := blk_cell hbi 1
        have y5 := blk_cell hbi 5
        have z5 := blk_cell hbj 5
        clear hx1 hx3
        by_cases cb : b < n
        · have hbi' : (b : Int) < (n : Int) := by omega
          have hBq : Below w.heap.size w wr := HBw.out.trans ((HKq.out.below (B := w.heap.size) (by have := HBw.out.size; omega) (fun k hk ⟨j, hj, e⟩ => by have := (HM.out.far j hj).2.1; omega)))
          obtain ⟨ad, Br, cr, e1, hx, hxc, hBA⟩ := (H10.out.keep hBq).at_ (j := b) (by rw [HCL.out]; exact cb)
          subst e1
          obtain ⟨ad2, e2, hxe⟩ := hBA.at_ (j := a) (by rw [HRL.out b cb]; exact ca)
          subst e2
          rw [HRL.out b cb] at hx hxc
          have hel : (I.cost.getD b []).getD a 0 = elt I b a := rfl
          rw [hel] at hxe
          obtain ⟨E, hE⟩ : ∃ E, elt I b a = E := ⟨_, rfl⟩
          rw [hE] at hxe
          have HE := Lib.hid hE
          have r1 := HMq.out.row.cell ca
          have r2 := (HMq.out.arr a ca).cell cb
          have r3 := (HMq.out.arr a ca).free b
          have hcpa := (HM.out.far a ca).1
          have h0a : (0 : Int) ≤ (a : Int) := by omega
          have h0b : (0 : Int) ≤ (b : Int) := by omega
          clear hel hE hBA hbi hbj hBq
          go_wp2
          go_region
          all_goals go_wp2
          all_goals go_roundg (gk - 1)
          case measure => omega
          case rel =>
            exact ⟨b + 1, by go_num, by omega, Lib.hid (((HMq.out.set ca b E).congr fun x y _ _ => by rw [← HE.out]; exact turnC_step I a b x y).drew), Lib.hid ((HKq.out.setCell (p := ⟨r a, b, none⟩) ⟨a, ca, rfl⟩ _).drew)⟩
        · have eb : b = n := by omega
          subst eb
          go_wp2
          go_roundg (gL - 1)
          case measure => omega
          case rel => exact ⟨a + 1, by go_num, by omega, Lib.hid (HMq.out.congr fun x y _ hy => turnC_row I a x y hy), Lib.hid (HKr.out.trans HKq.out)⟩
    · have ea : n = a := by omega
      subst ea
      have HBIr := Lib.hid (HBI.out wr (HV.out.keep HBw.out) (HT.out.keep HBw.out))
      clear HKr
      go_wp2_with fail
      refine HBIr.out.mono ?_
      rintro e w4 ⟨x, Ax, cx, rfl, hox, hxc, hix, hb4⟩
      obtain ⟨C, hC⟩ : ∃ C, costOf I x = C := ⟨_, rfl⟩
      rw [hC]
      have HC := Lib.hid hC
      have HOX := Lib.hid hox
      have HXj4 := Lib.hid (heap_keep HXj.out hb4)
      have HXi4 := Lib.hid (heap_keep HXi.out hb4)
      have HB4 := Lib.hid (keep_trans HBw.out hb4)
      have HM4 := Lib.hid (HMr.out.below hb4)
      have HBJr := Lib.hid (HBJ.out w4 _ (HIJ.out w4 B g r cp c5 A8 A11 c8 c11 HM4.out hcc5) (HT.out.keep HB4.out))
      have hxj := HXj4.out
      have z0 := blk_cell hxj 0
      have z1 := blk_cell hxj 1
      have z2 := blk_cell hxj 2
      have z3 := blk_cell hxj 3
      have z4 := blk_cell hxj 4
      have z5 := blk_cell hxj 5
      clear y0 y1 y2 y3 y4 y5 HBIr hC hox hxc hix hb4 HBw HXi HXj HMr hxj HX3 HB3 HM HCP HS HLG HB HBI
      go_wp2_with fail
      refine HBJr.out.mono ?_
      rintro e w5 ⟨y, Ay, cy, rfl, hoy, hyc, hiy, hb5⟩
      rw [← HEQ.out x y HOX.out hoy, HC.out]
      have hyl : y.length = n := hoy.1.len (I := setC I n (turnC I n 0)) HN.out
      rw [hyl] at hyc ⊢
      have HOY := Lib.hid hoy
      have HYL := Lib.hid hyl
      have HIY := Lib.hid hiy
      have HXi5 := Lib.hid (heap_keep HXi4.out hb5)
      have HB5 := Lib.hid (keep_trans HB4.out hb5)
      have hxi := HXi5.out
      have y0 := blk_cell hxi 0
      have y1 := blk_cell hxi 1
      have y2 := blk_cell hxi 2
      have y3 := blk_cell hxi 3
      have y4 := blk_cell hxi 4
      have y5 := blk_cell hxi 5
      have hCC : (C != C) = false := by simp
      have hNN : ((n : Int) != (n : Int)) = false := by simp
      have hmk := mk_ints1 n (by omega)
      clear z0 z1 z2 z3 z4 z5 HBJr hoy hyl hiy hb5 hxi HXj4 HXi4 HM4 HB4
      obtain ⟨ad, eA, hcs⟩ := HIY.out (by rw [HYL.out]; omega)
      subst eA
      have HCS := Lib.hid hcs
      clear hcs
      go_wp2
      go_loopg [13] n (fun gg v13 wz => ∃ (a : Nat) (zf : Nat → Int), v13 = .int .i64 a ∧ a + gg = n ∧ Hid (Arr wz w5.heap.size n zf) ∧ Hid (Below w5.heap.size w5 wz) ∧ Hid (∀ j, j < a → zf ((y.getD j 0).toNat) = ((j : Nat) : Int)))
      case atStart =>
        exact ⟨0, fun _ => 0, rfl, by omega, Lib.hid (Row.made w5 3 (.int .i64 0) n), Lib.hid ((Below.refl _ _).alloc (Nat.le_refl _) _), Lib.hid (fun j hj => by omega)⟩
      case round =>
        clear y0 y1 y2 y3 y4 y5
        obtain ⟨a, zf, rfl, ha, HZ, HBZ, HZF⟩ := hrel
        have hxi := heap_keep HXi5.out HBZ.out
        have y0 := blk_cell hxi 0
        have y1 := blk_cell hxi 1
        have y2 := blk_cell hxi 2
        have y3 := blk_cell hxi 3
        have y4 := blk_cell hxi 4
        have y5 := blk_cell hxi 5
        clear hxi
        by_cases ca : a < n
        · have iy := HOY.out.1.inj (I := setC I n (turnC I n 0)) HN.out (by have := HK.out; show I.kind ≠ 1; omega)
          have hcy := cell_keep HBZ.out (HCS.out a (by rw [HYL.out]; exact ca))
          have hya := (HOY.out.1.2 (by have := HK.out; show I.kind ≠ 1; omega)).1.2.1 a (by show a < I.n.toNat; rw [HN.out]; simpa using ca)
          obtain ⟨q, hq⟩ : ∃ q : Nat, y.getD a 0 = (q : Int) := Int.eq_ofNat_of_zero_le hya.1
          have hqn : (q : Int) < (n : Int) := by have h8 : y.getD a 0 < (I.n.toNat : Int) := hya.2; rw [HN.out, Int.toNat_natCast] at h8; omega
          have hqn' : q < n := by omega
          rw [hq] at hcy
          have HQ := Lib.hid hq
          have HIN := Lib.hid iy
          clear hya hq iy
          have zc := HZ.out.cell hqn'
          have zfr := Row.free HZ.out q
          go_wp2
          go_roundg (gk - 1)
          case measure => omega
          case rel =>
            refine ⟨a + 1, upd zf q a, by go_num, by omega, Lib.hid (HZ.out.set q (a : Int)), Lib.hid (HBZ.out.setCell (p := ⟨w5.heap.size, q, none⟩) (Nat.le_refl _) _), Lib.hid (fun j hj => ?_)⟩
            have hqa : (y.getD a 0).toNat = q := by rw [HQ.out]; exact Int.toNat_natCast q
            by_cases e : j = a
            · subst e; rw [hqa, upd_same]
            · rw [upd_other _ (fun e2 => e (HIN.out.2 j a (by omega) ca (by show (y.getD j 0).toNat = (y.getD a 0).toNat; omega)))]
              exact HZF.out j (by omega)
        · have ea : n = a := by omega
          subst ea
          obtain ⟨z, hzz, hfz, hcz⟩ := turned2_fin HK.out HN.out  HOX.out HOY.out HZF.out
          have hco := HCO.out wr (some ⟨w5.heap.size, 0, none⟩) n (natL n z) (HV.out.keep (keep_trans HB5.out HBZ.out)) (HZ.out.natL hzz) hfz
          rw [natL_len, hcz, HC.out] at hco
          have HCO2 := Lib.hid hco
          have hcc : (C == C) = true := by simp
          clear hzz hfz hcz hco HCO
          go_wp2_with fail
          refine HCO2.out.mono ?_
          rintro e w6 ⟨rfl, hb6⟩
          have HB6 := Lib.hid hb6
          clear hb6
          go_wp2
          go_ret
          exact ⟨rfl, keep_trans (keep_trans HB5.out HBZ.out) HB6.out⟩

set_option maxHeartbeats 2000000 in
theorem turned_3 (I : Inst) (hI : WF I) (hL : isLarge I = true) (hk : I.kind = 3) (v : Value) (w : World) (hv : InstAt w v I) (hT : TabW w) : Calls Tryd.prog 6 #[v] w fun e w' => e = .returned (.bool true) ∧ Below w.heap.size w w' := by
  obtain ⟨n, hn, hn1, hn24, -, hlen, -, hws, hvs, hrow, hok, hdiag⟩ := hI.rows (by omega)
  have hlim := large_lim hL
  have HS := Lib.hid (fun W => stands_any W)
  have HLG := Lib.hid (fun W hv => large_true I hI hL v W hv)
  have HCP := Lib.hid (fun W hv => copy_mat I hI hk (by decide) hn v W hv)
  have HBI := Lib.hid (fun W hv hT => topbest_any I hI hlim v W hv hT)
  have HCO := Lib.hid (fun W A c x hv hA hx => cost_any I hI v A c x W hv hA hx)
  have hJ : WF (setC I n (turnC I n 0)) := hI.setC hn (by omega) (fun a b ha hb => by rw [turnC_all I a b ha]; exact hok b a hb ha) (fun e a ha => by rw [turnC_all I a a ha]; exact hdiag e a ha)
  have hJL : Lim (setC I n (turnC I n 0)) := hlim
  have HBJ := Lib.hid (fun W v hv hT => topbest_any (setC I n (turnC I n 0)) hJ hJL v W hv hT)
  have hIJ := fun W B g r cp c A8 A11 c8 c11 (hM : Mat W B g n r cp (turnC I n 0)) (hc : n ≤ c) => instAt_mat (A8 := A8) (A11 := A11) (c8 := c8) (c11 := c11) hI (by omega) hn hn24 hM hc
  rw [hk, hn, show I.cap = 0 by obtain ⟨_, _, _, _, _, _, h, _⟩ := hI.rows (show I.kind ≠ 1 by omega); exact h] at hIJ
  have HIJ := Lib.hid hIJ
  have HI := Lib.hid hI
  have HK := Lib.hid hk
  have HN := Lib.hid hn
  have HRL := Lib.hid hrow
  have HCL := Lib.hid hlen
  have HV := Lib.hid hv
  have HT := Lib.hid hT
  have hb : ∀ o : Obj, Below w.heap.size w (w.alloc o) := fun o => (Below.refl _ _).alloc (Nat.le_refl _) o
  have HB := Lib.hid hb
  have HEQ := Lib.hid (fun x y (hx : Opt I x) (hy : Opt (setC I n (turnC I n 0)) y) => turned3_eq (n := n) (I := I) (J := setC I n (turnC I n 0)) hk hk (by omega) hn hn (fun a b ha hb => by rw [elt_setC I _ ha hb, turnC_all I a b ha]) hx hy)
  obtain ⟨A1, c1, A2, c2, A3, c3, rfl, hc3, h10⟩ := hv.mform hI hk (by decide) hn
  have H10 := Lib.hid h10
  clear hI hL hk hv hT hlim hJ hJL hIJ hn hrow hlen hws hvs hok hdiag hb h10
  go_enter Tryd.func6, Tryd.ntmps6
  go_wp2_with fail
  refine (HS.out _).mono ?_
  rintro e w1 ⟨rfl, hb1⟩
  have hB1 := keep_box hb1
  obtain ⟨hc1, hf1⟩ := bcell hb1
  have hbx1 := heap_keep (heap_new w (.cells #[.int .i64 3, .int .i64 (n : Int), .int .i64 0, .slice A1 0 c1, .slice A2 0 c2, .slice A3 n c3] 25 (0, 0)) _ rfl) hb1
  have HX1 := Lib.hid hbx1
  have HB1 := Lib.hid hB1
  clear hb1 hB1 hbx1
  go_wp2_with fail
  refine (HLG.out _ (HV.out.keep HB1.out)).mono ?_
  rintro e w2 ⟨rfl, hb2⟩
  have hbx2 := heap_keep HX1.out hb2
  have HX2 := Lib.hid hbx2
  have HB2 := Lib.hid (keep_trans HB1.out hb2)
  have y0 := blk_cell hbx2 0
  have y1 := blk_cell hbx2 1
  have y2 := blk_cell hbx2 2
  have y3 := blk_cell hbx2 3
  have y4 := blk_cell hbx2 4
  have y5 := blk_cell hbx2 5
  clear hc1 hf1 hb2 hbx2 HX1 HB1
  go_wp2_with fail
  refine (HCP.out _ (HV.out.keep HB2.out)).mono ?_
  rintro e w3 ⟨A8, c8, A11, c11, g, c5, r, cp, B, rfl, hcc5, hBB, hM, hb3⟩
  have hws := HB2.out.size
  have hxl := heap_lt HX2.out
  have HX3 := Lib.hid (heap_keep HX2.out hb3)
  have HB3 := Lib.hid (keep_trans HB2.out hb3)
  have HM := Lib.hid hM
  clear y0 y1 y2 y3 y4 y5 hM hb3 HX2 HB2
  go_wp2
  go_loopg [4] n (fun gg v4 wr => ∃ a : Nat, v4 = .int .i64 a ∧ a + gg = n ∧ Hid (Mat wr B g n r cp (turnC I a 0)) ∧ Hid (Keep (RowSet n r) (w3.alloc (.cells #[.int .i64 3, .int .i64 (n : Int), .int .i64 0, .slice A8 0 c8, .slice A11 0 c11, .slice (some ⟨g, 0, none⟩) n c5] 25 (0, 0))) wr))
  case atStart => exact ⟨0, rfl, by omega, Lib.hid ((HM.out.below ((Below.refl _ _).alloc (Nat.le_refl _) _)).congr fun a b _ _ => (turnC_zero I a b).symm), Lib.hid (Keep.refl _ _)⟩
  case round =>
    obtain ⟨a, rfl, ha, HMr, HKr⟩ := hrel
    have hx1 : ¬ RowSet n r w.heap.size := fun ⟨j, hj, e⟩ => by have := (HM.out.far j hj).2.1; omega
    have hx3 : ¬ RowSet n r w3.heap.size := fun ⟨j, hj, e⟩ => by have := (HM.out.arr j hj).lt; omega
    have hbi := HKr.out.heap (heap_old' HX3.out _) hx1
    have hbj := HKr.out.heap (heap_new w3 _ _ rfl) hx3
    have y0 := blk_cell hbi 0
    have y1 := blk_cell hbi 1
    have y2 := blk_cell hbi 2
    have y3 := blk_cell hbi 3
    have y4 := blk_cell hbi 4
    have y5 := blk_cell hbi 5
    have hBw : Below w.heap.size w wr := (HB3.out.trans ((HKr.out.below (B := w.heap.size) (by have := HB3.out.size; simp; omega) (fun k hk ⟨j, hj, e⟩ => by have := (HM.out.far j hj).2.1; omega)).trans (Below.refl _ _) |> fun h => ((Below.refl _ _).alloc (by have := HB3.out.size; exact this) _).trans h))
    have HBw := Lib.hid hBw
    have HXi := Lib.hid hbi
    have HXj := Lib.hid hbj
    clear hbi hbj hBw hx1 hx3
    by_cases ca : a < n
    · have hai : (a : Int) < (n : Int) := by omega
      go_wp2
      obtain ⟨gL, rfl⟩ : ∃ g : Nat, g = gk := ⟨_, rfl⟩
      go_loopg [5] n (fun gg v5 wq => ∃ b : Nat, v5 = .int .i64 b ∧ b + gg = n ∧ Hid (Mat wq B g n r cp (turnC I a b)) ∧ Hid (Keep (RowSet n r) wr wq))
      case atStart => exact ⟨0, rfl, by omega, HMr, Lib.hid (Keep.refl _ _)⟩
      case round =>
        clear y0 y1 y2 y3 y4 y5
        obtain ⟨b, rfl, hb, HMq, HKq⟩ := hrel
        have hx1 : ¬ RowSet n r w.heap.size := fun ⟨j, hj, e⟩ => by have := (HM.out.far j hj).2.1; omega
        have hx3 : ¬ RowSet n r w3.heap.size := fun ⟨j, hj, e⟩ => by have := (HM.out.arr j hj).lt; omega
        have hbi := HKq.out.heap HXi.out hx1
        have hbj := HKq.out.heap HXj.out hx3
        have y1 := blk_cell hbi 1
        have y5 := blk_cell hbi 5
        have z5 := blk_cell hbj 5
        clear hx1 hx3
        by_cases cb : b < n
        · have hbi' : (b : Int) < (n : Int) := by omega
          have hBq : Below w.heap.size w wr := HBw.out.trans ((HKq.out.below (B := w.heap.size) (by have := HBw.out.size; omega) (fun k hk ⟨j, hj, e⟩ => by have := (HM.out.far j hj).2.1; omega)))
          obtain ⟨ad, Br, cr, e1, hx, hxc, hBA⟩ := (H10.out.keep hBq).at_ (j := b) (by rw [HCL.out]; exact cb)
          subst e1
          obtain ⟨ad2, e2, hxe⟩ := hBA.at_ (j := a) (by rw [HRL.out b cb]; exact ca)
          subst e2
          rw [HRL.out b cb] at hx hxc
          have hel : (I.cost.getD b []).getD a 0 = elt I b a := rfl
          rw [hel] at hxe
          obtain ⟨E, hE⟩ : ∃ E, elt I b a = E := ⟨_, rfl⟩
          rw [hE] at hxe
          have HE := Lib.hid hE
          have r1 := HMq.out.row.cell ca
          have r2 := (HMq.out.arr a ca).cell cb
          have r3 := (HMq.out.arr a ca).free b
          have hcpa := (HM.out.far a ca).1
          have h0a : (0 : Int) ≤ (a : Int) := by omega
          have h0b : (0 : Int) ≤ (b : Int) := by omega
          clear hel hE hBA hbi hbj hBq
          go_wp2
          go_region
          all_goals go_wp2
          all_goals go_roundg (gk - 1)
          case measure => omega
          case rel =>
            exact ⟨b + 1, by go_num, by omega, Lib.hid (((HMq.out.set ca b E).congr fun x y _ _ => by rw [← HE.out]; exact turnC_step I a b x y).drew), Lib.hid ((HKq.out.setCell (p := ⟨r a, b, none⟩) ⟨a, ca, rfl⟩ _).drew)⟩
        · have eb : b = n := by omega
          subst eb
          go_wp2
          go_roundg (gL - 1)
          case measure => omega
          case rel => exact ⟨a + 1, by go_num, by omega, Lib.hid (HMq.out.congr fun x y _ hy => turnC_row I a x y hy), Lib.hid (HKr.out.trans HKq.out)⟩
    · have ea : n = a := by omega
      subst ea
      have HBIr := Lib.hid (HBI.out wr (HV.out.keep HBw.out) (HT.out.keep HBw.out))
      clear HKr
      go_wp2_with fail
      refine HBIr.out.mono ?_
      rintro e w4 ⟨x, Ax, cx, rfl, hox, hxc, hix, hb4⟩
      obtain ⟨C, hC⟩ : ∃ C, costOf I x = C := ⟨_, rfl⟩
      rw [hC]
      have HC := Lib.hid hC
      have HOX := Lib.hid hox
      have HXj4 := Lib.hid (heap_keep HXj.out hb4)
      have HXi4 := Lib.hid (heap_keep HXi.out hb4)
      have HB4 := Lib.hid (keep_trans HBw.out hb4)
      have HM4 := Lib.hid (HMr.out.below hb4)
      have HBJr := Lib.hid (HBJ.out w4 _ (HIJ.out w4 B g r cp c5 A8 A11 c8 c11 HM4.out hcc5) (HT.out.keep HB4.out))
      have hxj := HXj4.out
      have z0 := blk_cell hxj 0
      have z1 := blk_cell hxj 1
      have z2 := blk_cell hxj 2
      have z3 := blk_cell hxj 3
      have z4 := blk_cell hxj 4
      have z5 := blk_cell hxj 5
      clear y0 y1 y2 y3 y4 y5 HBIr hC hox hxc hix hb4 HBw HXi HXj HMr hxj HX3 HB3 HM HCP HS HLG HB HBI
      go_wp2_with fail
      refine HBJr.out.mono ?_
      rintro e w5 ⟨y, Ay, cy, rfl, hoy, hyc, hiy, hb5⟩
      rw [← HEQ.out x y HOX.out hoy, HC.out]
      have hyl : y.length = n := hoy.1.len (I := setC I n (turnC I n 0)) HN.out
      rw [hyl] at hyc ⊢
      have HOY := Lib.hid hoy
      have HYL := Lib.hid hyl
      have HIY := Lib.hid hiy
      have HXi5 := Lib.hid (heap_keep HXi4.out hb5)
      have HB5 := Lib.hid (keep_trans HB4.out hb5)
      have hxi := HXi5.out
      have y0 := blk_cell hxi 0
      have y1 := blk_cell hxi 1
      have y2 := blk_cell hxi 2
      have y3 := blk_cell hxi 3
      have y4 := blk_cell hxi 4
      have y5 := blk_cell hxi 5
      have hCC : (C != C) = false := by simp
      have hNN : ((n : Int) != (n : Int)) = false := by simp
      have hmk := mk_ints1 n (by omega)
      clear z0 z1 z2 z3 z4 z5 HBJr hoy hyl hiy hb5 hxi HXj4 HXi4 HM4 HB4
      obtain ⟨ad, eA, hcs⟩ := HIY.out (by rw [HYL.out]; omega)
      subst eA
      have HCS := Lib.hid hcs
      clear hcs
      go_wp2
      go_loopg [13] n (fun gg v13 wz => ∃ (a : Nat) (zf : Nat → Int), v13 = .int .i64 a ∧ a + gg = n ∧ Hid (Arr wz w5.heap.size n zf) ∧ Hid (Below w5.heap.size w5 wz) ∧ Hid (∀ j, j < a → zf ((n - j) % n) = (((y.getD j 0).toNat : Nat) : Int)))
      case atStart =>
        exact ⟨0, fun _ => 0, rfl, by omega, Lib.hid (Row.made w5 3 (.int .i64 0) n), Lib.hid ((Below.refl _ _).alloc (Nat.le_refl _) _), Lib.hid (fun j hj => by omega)⟩
      case round =>
        clear y0 y1 y2 y3 y4 y5
        obtain ⟨a, zf, rfl, ha, HZ, HBZ, HZF⟩ := hrel
        have hxi := heap_keep HXi5.out HBZ.out
        have y0 := blk_cell hxi 0
        have y1 := blk_cell hxi 1
        have y2 := blk_cell hxi 2
        have y3 := blk_cell hxi 3
        have y4 := blk_cell hxi 4
        have y5 := blk_cell hxi 5
        clear hxi
        by_cases ca : a < n
        · have iy := HOY.out.1.inj (I := setC I n (turnC I n 0)) HN.out (by have := HK.out; show I.kind ≠ 1; omega)
          have hcy := cell_keep HBZ.out (HCS.out a (by rw [HYL.out]; exact ca))
          have hya := (HOY.out.1.2 (by have := HK.out; show I.kind ≠ 1; omega)).1.2.1 a (by show a < I.n.toNat; rw [HN.out]; simpa using ca)
          obtain ⟨q, hq⟩ : ∃ q : Nat, y.getD a 0 = (q : Int) := Int.eq_ofNat_of_zero_le hya.1
          have hqn : (q : Int) < (n : Int) := by have h8 : y.getD a 0 < (I.n.toNat : Int) := hya.2; rw [HN.out, Int.toNat_natCast] at h8; omega
          have hqn' : q < n := by omega
          rw [hq] at hcy
          have HQ := Lib.hid hq
          have HIN := Lib.hid iy
          clear hya hq iy
          obtain ⟨m, hm⟩ : ∃ m, (n - a) % n = m := ⟨_, rfl⟩
          have hmn : m < n := by rw [← hm]; exact Nat.mod_lt _ (by omega)
          have hmi : ((n : Int) - (a : Int)) % (n : Int) = (m : Int) := by rw [← hm, show (n : Int) - (a : Int) = ((n - a : Nat) : Int) by omega]; simp
          have hmt : ((n : Int) - (a : Int)).tmod (n : Int) = (m : Int) := by rw [Int.tmod_eq_emod_of_nonneg (by omega)]; exact hmi
          have zc := HZ.out.cell hmn
          have zfr := Row.free HZ.out m
          have hmn2 : (m : Int) < (n : Int) := by omega
          have HMM := Lib.hid hm
          clear hm
          go_wp2
          go_region
          all_goals go_wp2
          all_goals go_roundg (gk - 1)
          case measure => omega
          case rel =>
            refine ⟨a + 1, upd zf m (q : Int), by go_num, by omega, Lib.hid (HZ.out.set m (q : Int)).drew, Lib.hid (HBZ.out.setCell (p := ⟨w5.heap.size, m, none⟩) (Nat.le_refl _) _).drew, Lib.hid (fun j hj => ?_)⟩
            have hqa : (y.getD a 0).toNat = q := by rw [HQ.out]; exact Int.toNat_natCast q
            by_cases e : j = a
            · subst e; rw [HMM.out, upd_same, hqa]
            · rw [upd_other _ (fun e2 => e ((rev_inj (by omega)).2 j a (by omega) ca (by show (n - j) % n = (n - a) % n; rw [HMM.out]; exact e2)))]
              exact HZF.out j (by omega)
        · have ea : n = a := by omega
          subst ea
          obtain ⟨z, hzz, hfz, hcz⟩ := turned3_fin HK.out HN.out (by omega) HOX.out HOY.out HZF.out
          have hco := HCO.out wr (some ⟨w5.heap.size, 0, none⟩) n (natL n z) (HV.out.keep (keep_trans HB5.out HBZ.out)) (HZ.out.natL hzz) hfz
          rw [natL_len, hcz, HC.out] at hco
          have HCO2 := Lib.hid hco
          have hcc : (C == C) = true := by simp
          clear hzz hfz hcz hco HCO
          go_wp2_with fail
          refine HCO2.out.mono ?_
          rintro e w6 ⟨rfl, hb6⟩
          have HB6 := Lib.hid hb6
          clear hb6
          go_wp2
          go_ret
          exact ⟨rfl, keep_trans (keep_trans HB5.out HBZ.out) HB6.out⟩

theorem turned_no (I : Inst) (h : ¬ (WF I ∧ isLarge I = true)) (v : Value) (w : World) (hv : InstAt w v I) : Calls Tryd.prog 6 #[v] w fun e w' => e = .returned (.bool true) ∧ Below w.heap.size w w' := by
  have HS := Lib.hid (fun W => stands_any W)
  have HLG := Lib.hid (fun W hv => large_false I h v W hv)
  have HV := Lib.hid hv
  obtain ⟨A1, c1, A2, c2, A3, c3, rfl, -⟩ := hv
  clear h
  generalize I.ws.length = l1 at *
  generalize I.vs.length = l2 at *
  generalize I.cost.length = l3 at *
  go_enter Tryd.func6, Tryd.ntmps6
  go_wp2_with fail
  refine (HS.out _).mono ?_
  rintro e w1 ⟨rfl, hb1⟩
  have HB1 := Lib.hid (keep_box hb1)
  obtain ⟨hc1, hf1⟩ := bcell hb1
  clear hb1
  go_wp2_with fail
  refine (HLG.out _ (HV.out.keep HB1.out)).mono ?_
  rintro e w2 ⟨rfl, hb2⟩
  have HB2 := Lib.hid (keep_trans HB1.out hb2)
  clear hb2 hc1 hf1
  go_wp2_with fail
  refine (HS.out _).mono ?_
  rintro e w3 ⟨rfl, hb3⟩
  have HB3 := Lib.hid (keep_trans HB2.out hb3)
  clear hb3
  go_wp2
  go_ret
  exact ⟨rfl, HB3.out⟩

theorem turned_1 (I : Inst) (hI : WF I) (hL : isLarge I = true) (hk : I.kind = 1) (v : Value) (w : World) (hv : InstAt w v I) : Calls Tryd.prog 6 #[v] w fun e w' => e = .returned (.bool true) ∧ Below w.heap.size w w' := by
  have HS := Lib.hid (fun W => stands_any W)
  have HLG := Lib.hid (fun W hv => large_true I hI hL v W hv)
  have HV := Lib.hid hv
  obtain ⟨A1, c1, A2, c2, A3, c3, rfl, -⟩ := hv
  rw [hk] at HV HLG ⊢
  clear hI hL hk
  generalize I.ws.length = l1 at *
  generalize I.vs.length = l2 at *
  generalize I.cost.length = l3 at *
  generalize hN : I.n = N at *
  clear hN
  go_enter Tryd.func6, Tryd.ntmps6
  go_wp2_with fail
  refine (HS.out _).mono ?_
  rintro e w1 ⟨rfl, hb1⟩
  have HB1 := Lib.hid (keep_box hb1)
  have HX1 := Lib.hid (heap_keep (heap_new w (.cells #[.int .i64 1, .int .i64 N, .int .i64 I.cap, .slice A1 l1 c1, .slice A2 l2 c2, .slice A3 l3 c3] 25 (0, 0)) _ rfl) hb1)
  obtain ⟨hc1, hf1⟩ := bcell hb1
  clear hb1
  go_wp2_with fail
  refine (HLG.out _ (HV.out.keep HB1.out)).mono ?_
  rintro e w2 ⟨rfl, hb2⟩
  have HB2 := Lib.hid (keep_trans HB1.out hb2)
  have hbx2 := heap_keep HX1.out hb2
  have y0 := blk_cell hbx2 0
  clear hb2 hc1 hf1 hbx2
  go_wp2_with fail
  refine (HS.out _).mono ?_
  rintro e w3 ⟨rfl, hb3⟩
  have HB3 := Lib.hid (keep_trans HB2.out hb3)
  clear hb3
  go_wp2
  go_ret
  exact ⟨rfl, HB3.out⟩

theorem turned_any (I : Inst) (v : Value) (w : World) (hv : InstAt w v I) (hT : TabW w) : Calls Tryd.prog 6 #[v] w fun e w' => e = .returned (.bool true) ∧ Below w.heap.size w w' := by
  by_cases h : WF I ∧ isLarge I = true
  · rcases h.1.kinds with hk | hk | hk
    · exact turned_1 I h.1 h.2 hk v w hv
    · exact turned_2 I h.1 h.2 hk v w hv hT
    · exact turned_3 I h.1 h.2 hk v w hv hT
  · exact turned_no I h v w hv
end Go.Proofs.YtmfgffmlnfimcaaDoor
