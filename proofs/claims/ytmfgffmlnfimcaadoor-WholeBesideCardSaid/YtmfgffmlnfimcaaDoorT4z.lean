/- WholeBeside, whole. -/
import Derived.Test.YtmfgffmlnfimcaaDoorT4w
namespace Go.Proofs.YtmfgffmlnfimcaaDoor
open Go Go.RowKit Go.Shelf Go.Sort Go.Deep

set_option maxRecDepth 200000 in
set_option maxHeartbeats 1000000 in
theorem beside_noA (w : World) (K1 K2 n1 n2 Cap1 Cap2 : Int) (A1 A2 A3 B1 B2 B3 : Option Addr) (l1 c1 l2 c2 l3 c3 m1 d1 m2 d2 m3 d3 : Nat) (ha : ∀ W, Below w.heap.size w W → Calls Tryd.prog 9 #[.agg #[.int .i64 K1, .int .i64 n1, .int .i64 Cap1, .slice A1 l1 c1, .slice A2 l2 c2, .slice A3 l3 c3]] W fun e w' => e = .returned (.bool false) ∧ Below W.heap.size W w') : Calls Tryd.prog 4 #[.agg #[.int .i64 K1, .int .i64 n1, .int .i64 Cap1, .slice A1 l1 c1, .slice A2 l2 c2, .slice A3 l3 c3], .agg #[.int .i64 K2, .int .i64 n2, .int .i64 Cap2, .slice B1 m1 d1, .slice B2 m2 d2, .slice B3 m3 d3]] w fun e w' => e = .returned (.bool true) ∧ Below w.heap.size w w' := by
  have HS := Lib.hid (fun W => stands_any W)
  have H9 := Lib.hid ha
  clear ha
  go_enter Tryd.func4, Tryd.ntmps4
  go_wp2_with fail
  refine (HS.out _).mono ?_
  rintro e w1 ⟨rfl, hb1⟩
  have hbx1 := heap_keep (heap_old' (heap_new w (.cells #[.int .i64 K1, .int .i64 n1, .int .i64 Cap1, .slice A1 l1 c1, .slice A2 l2 c2, .slice A3 l3 c3] 25 (0, 0)) _ rfl) (.cells #[.int .i64 K2, .int .i64 n2, .int .i64 Cap2, .slice B1 m1 d1, .slice B2 m2 d2, .slice B3 m3 d3] 25 (0, 0))) hb1
  have hby1 := heap_keep (heap_new (w.alloc (.cells #[.int .i64 K1, .int .i64 n1, .int .i64 Cap1, .slice A1 l1 c1, .slice A2 l2 c2, .slice A3 l3 c3] 25 (0, 0))) (.cells #[.int .i64 K2, .int .i64 n2, .int .i64 Cap2, .slice B1 m1 d1, .slice B2 m2 d2, .slice B3 m3 d3] 25 (0, 0)) (w.heap.size + 1) (by simp)) hb1
  have HX1 := Lib.hid hbx1
  have HY1 := Lib.hid hby1
  have HB1 := Lib.hid (keep_trans (two_boxes w _ _) hb1)
  have x0 := blk_cell hbx1 0
  have x1 := blk_cell hbx1 1
  have x2 := blk_cell hbx1 2
  have x3 := blk_cell hbx1 3
  have x4 := blk_cell hbx1 4
  have x5 := blk_cell hbx1 5
  have y0 := blk_cell hby1 0
  have y1 := blk_cell hby1 1
  have y2 := blk_cell hby1 2
  have y3 := blk_cell hby1 3
  have y4 := blk_cell hby1 4
  have y5 := blk_cell hby1 5
  clear hb1 hbx1 hby1
  go_wp2_with fail
  refine (H9.out _ HB1.out).mono ?_
  rintro e w2 ⟨rfl, hb2⟩
  have HBL := Lib.hid (keep_trans HB1.out hb2)
  clear x0 x1 x2 x3 x4 x5 y0 y1 y2 y3 y4 y5 hb2
  go_wp2_with fail
  refine (HS.out _).mono ?_
  rintro e w4 ⟨rfl, hb4⟩
  have HB4 := Lib.hid (keep_trans HBL.out hb4)
  clear hb4
  go_wp2
  go_ret
  exact ⟨rfl, HB4.out⟩

set_option maxRecDepth 200000 in
set_option maxHeartbeats 1000000 in
theorem beside_noB (w : World) (K1 K2 n1 n2 Cap1 Cap2 : Int) (A1 A2 A3 B1 B2 B3 : Option Addr) (l1 c1 l2 c2 l3 c3 m1 d1 m2 d2 m3 d3 : Nat) (ha : ∀ W, Below w.heap.size w W → Calls Tryd.prog 9 #[.agg #[.int .i64 K1, .int .i64 n1, .int .i64 Cap1, .slice A1 l1 c1, .slice A2 l2 c2, .slice A3 l3 c3]] W fun e w' => e = .returned (.bool true) ∧ Below W.heap.size W w') (hb : ∀ W, Below w.heap.size w W → Calls Tryd.prog 9 #[.agg #[.int .i64 K2, .int .i64 n2, .int .i64 Cap2, .slice B1 m1 d1, .slice B2 m2 d2, .slice B3 m3 d3]] W fun e w' => e = .returned (.bool false) ∧ Below W.heap.size W w') : Calls Tryd.prog 4 #[.agg #[.int .i64 K1, .int .i64 n1, .int .i64 Cap1, .slice A1 l1 c1, .slice A2 l2 c2, .slice A3 l3 c3], .agg #[.int .i64 K2, .int .i64 n2, .int .i64 Cap2, .slice B1 m1 d1, .slice B2 m2 d2, .slice B3 m3 d3]] w fun e w' => e = .returned (.bool true) ∧ Below w.heap.size w w' := by
  have HS := Lib.hid (fun W => stands_any W)
  have H9 := Lib.hid ha
  have H9' := Lib.hid hb
  clear ha hb
  go_enter Tryd.func4, Tryd.ntmps4
  go_wp2_with fail
  refine (HS.out _).mono ?_
  rintro e w1 ⟨rfl, hb1⟩
  have hbx1 := heap_keep (heap_old' (heap_new w (.cells #[.int .i64 K1, .int .i64 n1, .int .i64 Cap1, .slice A1 l1 c1, .slice A2 l2 c2, .slice A3 l3 c3] 25 (0, 0)) _ rfl) (.cells #[.int .i64 K2, .int .i64 n2, .int .i64 Cap2, .slice B1 m1 d1, .slice B2 m2 d2, .slice B3 m3 d3] 25 (0, 0))) hb1
  have hby1 := heap_keep (heap_new (w.alloc (.cells #[.int .i64 K1, .int .i64 n1, .int .i64 Cap1, .slice A1 l1 c1, .slice A2 l2 c2, .slice A3 l3 c3] 25 (0, 0))) (.cells #[.int .i64 K2, .int .i64 n2, .int .i64 Cap2, .slice B1 m1 d1, .slice B2 m2 d2, .slice B3 m3 d3] 25 (0, 0)) (w.heap.size + 1) (by simp)) hb1
  have HX1 := Lib.hid hbx1
  have HY1 := Lib.hid hby1
  have HB1 := Lib.hid (keep_trans (two_boxes w _ _) hb1)
  have x0 := blk_cell hbx1 0
  have x1 := blk_cell hbx1 1
  have x2 := blk_cell hbx1 2
  have x3 := blk_cell hbx1 3
  have x4 := blk_cell hbx1 4
  have x5 := blk_cell hbx1 5
  have y0 := blk_cell hby1 0
  have y1 := blk_cell hby1 1
  have y2 := blk_cell hby1 2
  have y3 := blk_cell hby1 3
  have y4 := blk_cell hby1 4
  have y5 := blk_cell hby1 5
  clear hb1 hbx1 hby1
  go_wp2_with fail
  refine (H9.out _ HB1.out).mono ?_
  rintro e w2 ⟨rfl, hb2⟩
  have hbx2 := heap_keep HX1.out hb2
  have hby2 := heap_keep HY1.out hb2
  have HX2 := Lib.hid hbx2
  have HY2 := Lib.hid hby2
  have HB2 := Lib.hid (keep_trans HB1.out hb2)
  clear x0 x1 x2 x3 x4 x5 y0 y1 y2 y3 y4 y5
  have x0 := blk_cell hbx2 0
  have x1 := blk_cell hbx2 1
  have x2 := blk_cell hbx2 2
  have x3 := blk_cell hbx2 3
  have x4 := blk_cell hbx2 4
  have x5 := blk_cell hbx2 5
  have y0 := blk_cell hby2 0
  have y1 := blk_cell hby2 1
  have y2 := blk_cell hby2 2
  have y3 := blk_cell hby2 3
  have y4 := blk_cell hby2 4
  have y5 := blk_cell hby2 5
  clear hb2 hbx2 hby2
  go_wp2_with fail
  refine (H9'.out _ HB2.out).mono ?_
  rintro e w3 ⟨rfl, hb3⟩
  have HBL := Lib.hid (keep_trans HB2.out hb3)
  clear x0 x1 x2 x3 x4 x5 y0 y1 y2 y3 y4 y5 hb3
  go_wp2_with fail
  refine (HS.out _).mono ?_
  rintro e w4 ⟨rfl, hb4⟩
  have HB4 := Lib.hid (keep_trans HBL.out hb4)
  clear hb4
  go_wp2
  go_ret
  exact ⟨rfl, HB4.out⟩

set_option maxHeartbeats 1000000 in
theorem beside_any (I J : Inst) (v u : Value) (w : World) (hv : InstAt w v I) (hu : InstAt w u J) (hT : TabW w) : Calls Tryd.prog 4 #[v, u] w fun e w' => e = .returned (.bool true) ∧ Below w.heap.size w w' := by
  by_cases hI : WF I ∧ isLarge I = true
  · have h9 := fun W (hb : Below w.heap.size w W) => large_true I hI.1 hI.2 v W (hv.keep hb)
    by_cases hJ : WF J ∧ isLarge J = true
    · have h9' := fun W (hb : Below w.heap.size w W) => large_true J hJ.1 hJ.2 u W (hu.keep hb)
      by_cases hok : besideOk I J
      · obtain ⟨hkk, hk3, hn8, hn8', hn7⟩ := hok
        rcases hI.1.kinds with hk | hk | hk
        · obtain ⟨n1, h1, -⟩ := hI.1.knap hk
          obtain ⟨n2, h2, -⟩ := hJ.1.knap (by omega)
          have := hn7 hk
          exact beside_1 I J hI.1 hJ.1 hI.2 hJ.2 hk (by omega) n1 n2 h1 h2 (by omega) (by omega) v u w hv hu hT
        · obtain ⟨n1, h1, -⟩ := hI.1.rows (by omega)
          obtain ⟨n2, h2, -⟩ := hJ.1.rows (by omega)
          exact beside_2 I J hI.1 hJ.1 hI.2 hJ.2 hk (by omega) n1 n2 h1 h2 (by omega) (by omega) v u w hv hu hT
        · exact absurd hk hk3
      · have hki := hI.1.kinds
        have hkj := hJ.1.kinds
        obtain ⟨A1, c1, A2, c2, A3, c3, rfl, -⟩ := hv
        obtain ⟨B1, d1, B2, d2, B3, d3, rfl, -⟩ := hu
        unfold besideOk at hok
        generalize I.ws.length = l1 at *
        generalize I.vs.length = l2 at *
        generalize I.cost.length = l3 at *
        generalize J.ws.length = m1 at *
        generalize J.vs.length = m2 at *
        generalize J.cost.length = m3 at *
        generalize I.n = n1 at *
        generalize J.n = n2 at *
        generalize I.cap = q1 at *
        generalize J.cap = q2 at *
        clear hI hJ
        generalize I.kind = k1 at *
        generalize J.kind = k2 at *
        rcases hki with rfl | rfl | rfl <;> rcases hkj with rfl | rfl | rfl
        · by_cases g1 : 8 < n1
          · exact beside_no11a _ _ _ _ _ _ _ _ _ _ _ _ _ _ _ _ _ _ _ _ _ _ _ h9 h9' g1
          · by_cases g2 : 8 < n2
            · exact beside_no11b _ _ _ _ _ _ _ _ _ _ _ _ _ _ _ _ _ _ _ _ _ _ _ h9 h9' (by omega) g2
            · by_cases g3 : 7 < n1
              · exact beside_no11c _ _ _ _ _ _ _ _ _ _ _ _ _ _ _ _ _ _ _ _ _ _ _ h9 h9' (by omega) (by omega) g3
              · exact beside_no11d _ _ _ _ _ _ _ _ _ _ _ _ _ _ _ _ _ _ _ _ _ _ _ h9 h9' (by omega) (by omega) (by omega) (by omega)
        · exact beside_no12 _ _ _ _ _ _ _ _ _ _ _ _ _ _ _ _ _ _ _ _ _ _ _ h9 h9'
        · exact beside_no13 _ _ _ _ _ _ _ _ _ _ _ _ _ _ _ _ _ _ _ _ _ _ _ h9 h9'
        · exact beside_no21 _ _ _ _ _ _ _ _ _ _ _ _ _ _ _ _ _ _ _ _ _ _ _ h9 h9'
        · by_cases g1 : 8 < n1
          · exact beside_no22a _ _ _ _ _ _ _ _ _ _ _ _ _ _ _ _ _ _ _ _ _ _ _ h9 h9' g1
          · exact beside_no22b _ _ _ _ _ _ _ _ _ _ _ _ _ _ _ _ _ _ _ _ _ _ _ h9 h9' (by omega) (by omega)
        · exact beside_no23 _ _ _ _ _ _ _ _ _ _ _ _ _ _ _ _ _ _ _ _ _ _ _ h9 h9'
        · exact beside_no31 _ _ _ _ _ _ _ _ _ _ _ _ _ _ _ _ _ _ _ _ _ _ _ h9 h9'
        · exact beside_no32 _ _ _ _ _ _ _ _ _ _ _ _ _ _ _ _ _ _ _ _ _ _ _ h9 h9'
        · exact beside_no33 _ _ _ _ _ _ _ _ _ _ _ _ _ _ _ _ _ _ _ _ _ _ _ h9 h9'
    · have h9' := fun W (hb : Below w.heap.size w W) => large_false J hJ u W (hu.keep hb)
      obtain ⟨A1, c1, A2, c2, A3, c3, rfl, -⟩ := hv
      obtain ⟨B1, d1, B2, d2, B3, d3, rfl, -⟩ := hu
      exact beside_noB w _ _ _ _ _ _ _ _ _ _ _ _ _ _ _ _ _ _ _ _ _ _ _ _ h9 h9'
  · have h9 := fun W (hb : Below w.heap.size w W) => large_false I hI v W (hv.keep hb)
    obtain ⟨A1, c1, A2, c2, A3, c3, rfl, -⟩ := hv
    obtain ⟨B1, d1, B2, d2, B3, d3, rfl, -⟩ := hu
    exact beside_noA w _ _ _ _ _ _ _ _ _ _ _ _ _ _ _ _ _ _ _ _ _ _ _ _ h9
end Go.Proofs.YtmfgffmlnfimcaaDoor
