/- The walk of WholeBeside. -/
import Derived.Test.YtmfgffmlnfimcaaDoorT7k
namespace Go.Proofs.YtmfgffmlnfimcaaDoor
open Go Go.RowKit Go.Shelf Go.Sort Go.Deep

/-- What WholeBeside takes beside 'large'. -/
def besideOk (I J : Inst) : Prop := I.kind = J.kind ∧ I.kind ≠ 3 ∧ I.n ≤ 8 ∧ J.n ≤ 8 ∧ (I.kind = 1 → I.n ≤ 7 ∧ J.n ≤ 7)
theorem two_boxes (w : World) (o o2 : Obj) : Below w.heap.size w ((w.alloc o).alloc o2) := ((Below.refl _ _).alloc (Nat.le_refl _) o).alloc (by simp) o2

set_option maxRecDepth 200000 in
set_option maxHeartbeats 1000000 in
theorem beside_no12 (w : World) (n1 n2 Cap1 Cap2 : Int) (A1 A2 A3 B1 B2 B3 : Option Addr) (l1 c1 l2 c2 l3 c3 m1 d1 m2 d2 m3 d3 : Nat) (h9 : ∀ W, Below w.heap.size w W → Calls Tryd.prog 9 #[.agg #[.int .i64 1, .int .i64 (n1 : Int), .int .i64 Cap1, .slice A1 l1 c1, .slice A2 l2 c2, .slice A3 l3 c3]] W fun e w' => e = .returned (.bool true) ∧ Below W.heap.size W w') (h9' : ∀ W, Below w.heap.size w W → Calls Tryd.prog 9 #[.agg #[.int .i64 2, .int .i64 (n2 : Int), .int .i64 Cap2, .slice B1 m1 d1, .slice B2 m2 d2, .slice B3 m3 d3]] W fun e w' => e = .returned (.bool true) ∧ Below W.heap.size W w')  :
    Calls Tryd.prog 4 #[.agg #[.int .i64 1, .int .i64 (n1 : Int), .int .i64 Cap1, .slice A1 l1 c1, .slice A2 l2 c2, .slice A3 l3 c3], .agg #[.int .i64 2, .int .i64 (n2 : Int), .int .i64 Cap2, .slice B1 m1 d1, .slice B2 m2 d2, .slice B3 m3 d3]] w fun e w' => e = .returned (.bool true) ∧ Below w.heap.size w w' := by
  have HS := Lib.hid (fun W => stands_any W)
  have H9 := Lib.hid h9
  have H9' := Lib.hid h9'
  clear h9 h9'
  go_enter Tryd.func4, Tryd.ntmps4
  go_wp2_with fail
  refine (HS.out _).mono ?_
  rintro e w1 ⟨rfl, hb1⟩
  have hbx1 := heap_keep (heap_old' (heap_new w (.cells #[.int .i64 1, .int .i64 (n1 : Int), .int .i64 Cap1, .slice A1 l1 c1, .slice A2 l2 c2, .slice A3 l3 c3] 25 (0, 0)) _ rfl) (.cells #[.int .i64 2, .int .i64 (n2 : Int), .int .i64 Cap2, .slice B1 m1 d1, .slice B2 m2 d2, .slice B3 m3 d3] 25 (0, 0))) hb1
  have hby1 := heap_keep (heap_new (w.alloc (.cells #[.int .i64 1, .int .i64 (n1 : Int), .int .i64 Cap1, .slice A1 l1 c1, .slice A2 l2 c2, .slice A3 l3 c3] 25 (0, 0))) (.cells #[.int .i64 2, .int .i64 (n2 : Int), .int .i64 Cap2, .slice B1 m1 d1, .slice B2 m2 d2, .slice B3 m3 d3] 25 (0, 0)) (w.heap.size + 1) (by simp)) hb1
  have HX1 := Lib.hid hbx1
  have HY1 := Lib.hid hby1
  have HB1 := Lib.hid (keep_trans (two_boxes w _ _) hb1)
  have x0 := blk_cell hbx1 0
  have x1 := blk_cell hbx1 1
  have x2 := blk_cell hbx1 2
  have x3 := blk_cell hbx1 3
  have x4 := blk_cell hbx1 4
  have x5 := blk_cell hbx1 5
  have y0 := blk_cell hby1 0
  have y1 := blk_cell hby1 1
  have y2 := blk_cell hby1 2
  have y3 := blk_cell hby1 3
  have y4 := blk_cell hby1 4
  have y5 := blk_cell hby1 5
  clear hb1 hbx1 hby1
  go_wp2_with fail
  refine (H9.out _ HB1.out).mono ?_
  rintro e w2 ⟨rfl, hb2⟩
  have hbx2 := heap_keep HX1.out hb2
  have hby2 := heap_keep HY1.out hb2
  have HX2 := Lib.hid hbx2
  have HY2 := Lib.hid hby2
  have HB2 := Lib.hid (keep_trans HB1.out hb2)
  clear x0 x1 x2 x3 x4 x5 y0 y1 y2 y3 y4 y5
  have x0 := blk_cell hbx2 0
  have x1 := blk_cell hbx2 1
  have x2 := blk_cell hbx2 2
  have x3 := blk_cell hbx2 3
  have x4 := blk_cell hbx2 4
  have x5 := blk_cell hbx2 5
  have y0 := blk_cell hby2 0
  have y1 := blk_cell hby2 1
  have y2 := blk_cell hby2 2
  have y3 := blk_cell hby2 3
  have y4 := blk_cell hby2 4
  have y5 := blk_cell hby2 5
  clear hb2 hbx2 hby2
  go_wp2_with fail
  refine (H9'.out _ HB2.out).mono ?_
  rintro e w3 ⟨rfl, hb3⟩
  have hbx3 := heap_keep HX2.out hb3
  have hby3 := heap_keep HY2.out hb3
  have HB3 := Lib.hid (keep_trans HB2.out hb3)
  clear x0 x1 x2 x3 x4 x5 y0 y1 y2 y3 y4 y5
  have x0 := blk_cell hbx3 0
  have x1 := blk_cell hbx3 1
  have x2 := blk_cell hbx3 2
  have x3 := blk_cell hbx3 3
  have x4 := blk_cell hbx3 4
  have x5 := blk_cell hbx3 5
  have y0 := blk_cell hby3 0
  have y1 := blk_cell hby3 1
  have y2 := blk_cell hby3 2
  have y3 := blk_cell hby3 3
  have y4 := blk_cell hby3 4
  have y5 := blk_cell hby3 5
  clear hb3 hbx3 hby3
  go_wp2_with fail
  refine (HS.out _).mono ?_
  rintro e w4 ⟨rfl, hb4⟩
  have HB4 := Lib.hid (keep_trans HB3.out hb4)
  clear hb4
  go_wp2
  go_ret
  exact ⟨rfl, HB4.out⟩

set_option maxRecDepth 200000 in
set_option maxHeartbeats 1000000 in
theorem beside_no13 (w : World) (n1 n2 Cap1 Cap2 : Int) (A1 A2 A3 B1 B2 B3 : Option Addr) (l1 c1 l2 c2 l3 c3 m1 d1 m2 d2 m3 d3 : Nat) (h9 : ∀ W, Below w.heap.size w W → Calls Tryd.prog 9 #[.agg #[.int .i64 1, .int .i64 (n1 : Int), .int .i64 Cap1, .slice A1 l1 c1, .slice A2 l2 c2, .slice A3 l3 c3]] W fun e w' => e = .returned (.bool true) ∧ Below W.heap.size W w') (h9' : ∀ W, Below w.heap.size w W → Calls Tryd.prog 9 #[.agg #[.int .i64 3, .int .i64 (n2 : Int), .int .i64 Cap2, .slice B1 m1 d1, .slice B2 m2 d2, .slice B3 m3 d3]] W fun e w' => e = .returned (.bool true) ∧ Below W.heap.size W w')  :
    Calls Tryd.prog 4 #[.agg #[.int .i64 1, .int .i64 (n1 : Int), .int .i64 Cap1, .slice A1 l1 c1, .slice A2 l2 c2, .slice A3 l3 c3], .agg #[.int .i64 3, .int .i64 (n2 : Int), .int .i64 Cap2, .slice B1 m1 d1, .slice B2 m2 d2, .slice B3 m3 d3]] w fun e w' => e = .returned (.bool true) ∧ Below w.heap.size w w' := by
  have HS := Lib.hid (fun W => stands_any W)
  have H9 := Lib.hid h9
  have H9' := Lib.hid h9'
  clear h9 h9'
  go_enter Tryd.func4, Tryd.ntmps4
  go_wp2_with fail
  refine (HS.out _).mono ?_
  rintro e w1 ⟨rfl, hb1⟩
  have hbx1 := heap_keep (heap_old' (heap_new w (.cells #[.int .i64 1, .int .i64 (n1 : Int), .int .i64 Cap1, .slice A1 l1 c1, .slice A2 l2 c2, .slice A3 l3 c3] 25 (0, 0)) _ rfl) (.cells #[.int .i64 3, .int .i64 (n2 : Int), .int .i64 Cap2, .slice B1 m1 d1, .slice B2 m2 d2, .slice B3 m3 d3] 25 (0, 0))) hb1
  have hby1 := heap_keep (heap_new (w.alloc (.cells #[.int .i64 1, .int .i64 (n1 : Int), .int .i64 Cap1, .slice A1 l1 c1, .slice A2 l2 c2, .slice A3 l3 c3] 25 (0, 0))) (.cells #[.int .i64 3, .int .i64 (n2 : Int), .int .i64 Cap2, .slice B1 m1 d1, .slice B2 m2 d2, .slice B3 m3 d3] 25 (0, 0)) (w.heap.size + 1) (by simp)) hb1
  have HX1 := Lib.hid hbx1
  have HY1 := Lib.hid hby1
  have HB1 := Lib.hid (keep_trans (two_boxes w _ _) hb1)
  have x0 := blk_cell hbx1 0
  have x1 := blk_cell hbx1 1
  have x2 := blk_cell hbx1 2
  have x3 := blk_cell hbx1 3
  have x4 := blk_cell hbx1 4
  have x5 := blk_cell hbx1 5
  have y0 := blk_cell hby1 0
  have y1 := blk_cell hby1 1
  have y2 := blk_cell hby1 2
  have y3 := blk_cell hby1 3
  have y4 := blk_cell hby1 4
  have y5 := blk_cell hby1 5
  clear hb1 hbx1 hby1
  go_wp2_with fail
  refine (H9.out _ HB1.out).mono ?_
  rintro e w2 ⟨rfl, hb2⟩
  have hbx2 := heap_keep HX1.out hb2
  have hby2 := heap_keep HY1.out hb2
  have HX2 := Lib.hid hbx2
  have HY2 := Lib.hid hby2
  have HB2 := Lib.hid (keep_trans HB1.out hb2)
  clear x0 x1 x2 x3 x4 x5 y0 y1 y2 y3 y4 y5
  have x0 := blk_cell hbx2 0
  have x1 := blk_cell hbx2 1
  have x2 := blk_cell hbx2 2
  have x3 := blk_cell hbx2 3
  have x4 := blk_cell hbx2 4
  have x5 := blk_cell hbx2 5
  have y0 := blk_cell hby2 0
  have y1 := blk_cell hby2 1
  have y2 := blk_cell hby2 2
  have y3 := blk_cell hby2 3
  have y4 := blk_cell hby2 4
  have y5 := blk_cell hby2 5
  clear hb2 hbx2 hby2
  go_wp2_with fail
  refine (H9'.out _ HB2.out).mono ?_
  rintro e w3 ⟨rfl, hb3⟩
  have hbx3 := heap_keep HX2.out hb3
  have hby3 := heap_keep HY2.out hb3
  have HB3 := Lib.hid (keep_trans HB2.out hb3)
  clear x0 x1 x2 x3 x4 x5 y0 y1 y2 y3 y4 y5
  have x0 := blk_cell hbx3 0
  have x1 := blk_cell hbx3 1
  have x2 := blk_cell hbx3 2
  have x3 := blk_cell hbx3 3
  have x4 := blk_cell hbx3 4
  have x5 := blk_cell hbx3 5
  have y0 := blk_cell hby3 0
  have y1 := blk_cell hby3 1
  have y2 := blk_cell hby3 2
  have y3 := blk_cell hby3 3
  have y4 := blk_cell hby3 4
  have y5 := blk_cell hby3 5
  clear hb3 hbx3 hby3
  go_wp2_with fail
  refine (HS.out _).mono ?_
  rintro e w4 ⟨rfl, hb4⟩
  have HB4 := Lib.hid (keep_trans HB3.out hb4)
  clear hb4
  go_wp2
  go_ret
  exact ⟨rfl, HB4.out⟩

set_option maxRecDepth 200000 in
set_option maxHeartbeats 1000000 in
theorem beside_no21 (w : World) (n1 n2 Cap1 Cap2 : Int) (A1 A2 A3 B1 B2 B3 : Option Addr) (l1 c1 l2 c2 l3 c3 m1 d1 m2 d2 m3 d3 : Nat) (h9 : ∀ W, Below w.heap.size w W → Calls Tryd.prog 9 #[.agg #[.int .i64 2, .int .i64 (n1 : Int), .int .i64 Cap1, .slice A1 l1 c1, .slice A2 l2 c2, .slice A3 l3 c3]] W fun e w' => e = .returned (.bool true) ∧ Below W.heap.size W w') (h9' : ∀ W, Below w.heap.size w W → Calls Tryd.prog 9 #[.agg #[.int .i64 1, .int .i64 (n2 : Int), .int .i64 Cap2, .slice B1 m1 d1, .slice B2 m2 d2, .slice B3 m3 d3]] W fun e w' => e = .returned (.bool true) ∧ Below W.heap.size W w')  :
    Calls Tryd.prog 4 #[.agg #[.int .i64 2, .int .i64 (n1 : Int), .int .i64 Cap1, .slice A1 l1 c1, .slice A2 l2 c2, .slice A3 l3 c3], .agg #[.int .i64 1, .int .i64 (n2 : Int), .int .i64 Cap2, .slice B1 m1 d1, .slice B2 m2 d2, .slice B3 m3 d3]] w fun e w' => e = .returned (.bool true) ∧ Below w.heap.size w w' := by
  have HS := Lib.hid (fun W => stands_any W)
  have H9 := Lib.hid h9
  have H9' := Lib.hid h9'
  clear h9 h9'
  go_enter Tryd.func4, Tryd.ntmps4
  go_wp2_with fail
  refine (HS.out _).mono ?_
  rintro e w1 ⟨rfl, hb1⟩
  have hbx1 := heap_keep (heap_old' (heap_new w (.cells #[.int .i64 2, .int .i64 (n1 : Int), .int .i64 Cap1, .slice A1 l1 c1, .slice A2 l2 c2, .slice A3 l3 c3] 25 (0, 0)) _ rfl) (.cells #[.int .i64 1, .int .i64 (n2 : Int), .int .i64 Cap2, .slice B1 m1 d1, .slice B2 m2 d2, .slice B3 m3 d3] 25 (0, 0))) hb1
  have hby1 := heap_keep (heap_new (w.alloc (.cells #[.int .i64 2, .int .i64 (n1 : Int), .int .i64 Cap1, .slice A1 l1 c1, .slice A2 l2 c2, .slice A3 l3 c3] 25 (0, 0))) (.cells #[.int .i64 1, .int .i64 (n2 : Int), .int .i64 Cap2, .slice B1 m1 d1, .slice B2 m2 d2, .slice B3 m3 d3] 25 (0, 0)) (w.heap.size + 1) (by simp)) hb1
  have HX1 := Lib.hid hbx1
  have HY1 := Lib.hid hby1
  have HB1 := Lib.hid (keep_trans (two_boxes w _ _) hb1)
  have x0 := blk_cell hbx1 0
  have x1 := blk_cell hbx1 1
  have x2 := blk_cell hbx1 2
  have x3 := blk_cell hbx1 3
  have x4 := blk_cell hbx1 4
  have x5 := blk_cell hbx1 5
  have y0 := blk_cell hby1 0
  have y1 := blk_cell hby1 1
  have y2 := blk_cell hby1 2
  have y3 := blk_cell hby1 3
  have y4 := blk_cell hby1 4
  have y5 := blk_cell hby1 5
  clear hb1 hbx1 hby1
  go_wp2_with fail
  refine (H9.out _ HB1.out).mono ?_
  rintro e w2 ⟨rfl, hb2⟩
  have hbx2 := heap_keep HX1.out hb2
  have hby2 := heap_keep HY1.out hb2
  have HX2 := Lib.hid hbx2
  have HY2 := Lib.hid hby2
  have HB2 := Lib.hid (keep_trans HB1.out hb2)
  clear x0 x1 x2 x3 x4 x5 y0 y1 y2 y3 y4 y5
  have x0 := blk_cell hbx2 0
  have x1 := blk_cell hbx2 1
  have x2 := blk_cell hbx2 2
  have x3 := blk_cell hbx2 3
  have x4 := blk_cell hbx2 4
  have x5 := blk_cell hbx2 5
  have y0 := blk_cell hby2 0
  have y1 := blk_cell hby2 1
  have y2 := blk_cell hby2 2
  have y3 := blk_cell hby2 3
  have y4 := blk_cell hby2 4
  have y5 := blk_cell hby2 5
  clear hb2 hbx2 hby2
  go_wp2_with fail
  refine (H9'.out _ HB2.out).mono ?_
  rintro e w3 ⟨rfl, hb3⟩
  have hbx3 := heap_keep HX2.out hb3
  have hby3 := heap_keep HY2.out hb3
  have HB3 := Lib.hid (keep_trans HB2.out hb3)
  clear x0 x1 x2 x3 x4 x5 y0 y1 y2 y3 y4 y5
  have x0 := blk_cell hbx3 0
  have x1 := blk_cell hbx3 1
  have x2 := blk_cell hbx3 2
  have x3 := blk_cell hbx3 3
  have x4 := blk_cell hbx3 4
  have x5 := blk_cell hbx3 5
  have y0 := blk_cell hby3 0
  have y1 := blk_cell hby3 1
  have y2 := blk_cell hby3 2
  have y3 := blk_cell hby3 3
  have y4 := blk_cell hby3 4
  have y5 := blk_cell hby3 5
  clear hb3 hbx3 hby3
  go_wp2_with fail
  refine (HS.out _).mono ?_
  rintro e w4 ⟨rfl, hb4⟩
  have HB4 := Lib.hid (keep_trans HB3.out hb4)
  clear hb4
  go_wp2
  go_ret
  exact ⟨rfl, HB4.out⟩

set_option maxRecDepth 200000 in
set_option maxHeartbeats 1000000 in
theorem beside_no23 (w : World) (n1 n2 Cap1 Cap2 : Int) (A1 A2 A3 B1 B2 B3 : Option Addr) (l1 c1 l2 c2 l3 c3 m1 d1 m2 d2 m3 d3 : Nat) (h9 : ∀ W, Below w.heap.size w W → Calls Tryd.prog 9 #[.agg #[.int .i64 2, .int .i64 (n1 : Int), .int .i64 Cap1, .slice A1 l1 c1, .slice A2 l2 c2, .slice A3 l3 c3]] W fun e w' => e = .returned (.bool true) ∧ Below W.heap.size W w') (h9' : ∀ W, Below w.heap.size w W → Calls Tryd.prog 9 #[.agg #[.int .i64 3, .int .i64 (n2 : Int), .int .i64 Cap2, .slice B1 m1 d1, .slice B2 m2 d2, .slice B3 m3 d3]] W fun e w' => e = .returned (.bool true) ∧ Below W.heap.size W w')  :
    Calls Tryd.prog 4 #[.agg #[.int .i64 2, .int .i64 (n1 : Int), .int .i64 Cap1, .slice A1 l1 c1, .slice A2 l2 c2, .slice A3 l3 c3], .agg #[.int .i64 3, .int .i64 (n2 : Int), .int .i64 Cap2, .slice B1 m1 d1, .slice B2 m2 d2, .slice B3 m3 d3]] w fun e w' => e = .returned (.bool true) ∧ Below w.heap.size w w' := by
  have HS := Lib.hid (fun W => stands_any W)
  have H9 := Lib.hid h9
  have H9' := Lib.hid h9'
  clear h9 h9'
  go_enter Tryd.func4, Tryd.ntmps4
  go_wp2_with fail
  refine (HS.out _).mono ?_
  rintro e w1 ⟨rfl, hb1⟩
  have hbx1 := heap_keep (heap_old' (heap_new w (.cells #[.int .i64 2, .int .i64 (n1 : Int), .int .i64 Cap1, .slice A1 l1 c1, .slice A2 l2 c2, .slice A3 l3 c3] 25 (0, 0)) _ rfl) (.cells #[.int .i64 3, .int .i64 (n2 : Int), .int .i64 Cap2, .slice B1 m1 d1, .slice B2 m2 d2, .slice B3 m3 d3] 25 (0, 0))) hb1
  have hby1 := heap_keep (heap_new (w.alloc (.cells #[.int .i64 2, .int .i64 (n1 : Int), .int .i64 Cap1, .slice A1 l1 c1, .slice A2 l2 c2, .slice A3 l3 c3] 25 (0, 0))) (.cells #[.int .i64 3, .int .i64 (n2 : Int), .int .i64 Cap2, .slice B1 m1 d1, .slice B2 m2 d2, .slice B3 m3 d3] 25 (0, 0)) (w.heap.size + 1) (by simp)) hb1
  have HX1 := Lib.hid hbx1
  have HY1 := Lib.hid hby1
  have HB1 := Lib.hid (keep_trans (two_boxes w _ _) hb1)
  have x0 := blk_cell hbx1 0
  have x1 := blk_cell hbx1 1
  have x2 := blk_cell hbx1 2
  have x3 := blk_cell hbx1 3
  have x4 := blk_cell hbx1 4
  have x5 := blk_cell hbx1 5
  have y0 := blk_cell hby1 0
  have y1 := blk_cell hby1 1
  have y2 := blk_cell hby1 2
  have y3 := blk_cell hby1 3
  have y4 := blk_cell hby1 4
  have y5 := blk_cell hby1 5
  clear hb1 hbx1 hby1
  go_wp2_with fail
  refine (H9.out _ HB1.out).mono ?_
  rintro e w2 ⟨rfl, hb2⟩
  have hbx2 := heap_keep HX1.out hb2
  have hby2 := heap_keep HY1.out hb2
  have HX2 := Lib.hid hbx2
  have HY2 := Lib.hid hby2
  have HB2 := Lib.hid (keep_trans HB1.out hb2)
  clear x0 x1 x2 x3 x4 x5 y0 y1 y2 y3 y4 y5
  have x0 := blk_cell hbx2 0
  have x1 := blk_cell hbx2 1
  have x2 := blk_cell hbx2 2
  have x3 := blk_cell hbx2 3
  have x4 := blk_cell hbx2 4
  have x5 := blk_cell hbx2 5
  have y0 := blk_cell hby2 0
  have y1 := blk_cell hby2 1
  have y2 := blk_cell hby2 2
  have y3 := blk_cell hby2 3
  have y4 := blk_cell hby2 4
  have y5 := blk_cell hby2 5
  clear hb2 hbx2 hby2
  go_wp2_with fail
  refine (H9'.out _ HB2.out).mono ?_
  rintro e w3 ⟨rfl, hb3⟩
  have hbx3 := heap_keep HX2.out hb3
  have hby3 := heap_keep HY2.out hb3
  have HB3 := Lib.hid (keep_trans HB2.out hb3)
  clear x0 x1 x2 x3 x4 x5 y0 y1 y2 y3 y4 y5
  have x0 := blk_cell hbx3 0
  have x1 := blk_cell hbx3 1
  have x2 := blk_cell hbx3 2
  have x3 := blk_cell hbx3 3
  have x4 := blk_cell hbx3 4
  have x5 := blk_cell hbx3 5
  have y0 := blk_cell hby3 0
  have y1 := blk_cell hby3 1
  have y2 := blk_cell hby3 2
  have y3 := blk_cell hby3 3
  have y4 := blk_cell hby3 4
  have y5 := blk_cell hby3 5
  clear hb3 hbx3 hby3
  go_wp2_with fail
  refine (HS.out _).mono ?_
  rintro e w4 ⟨rfl, hb4⟩
  have HB4 := Lib.hid (keep_trans HB3.out hb4)
  clear hb4
  go_wp2
  go_ret
  exact ⟨rfl, HB4.out⟩

set_option maxRecDepth 200000 in
set_option maxHeartbeats 1000000 in
theorem beside_no31 (w : World) (n1 n2 Cap1 Cap2 : Int) (A1 A2 A3 B1 B2 B3 : Option Addr) (l1 c1 l2 c2 l3 c3 m1 d1 m2 d2 m3 d3 : Nat) (h9 : ∀ W, Below w.heap.size w W → Calls Tryd.prog 9 #[.agg #[.int .i64 3, .int .i64 (n1 : Int), .int .i64 Cap1, .slice A1 l1 c1, .slice A2 l2 c2, .slice A3 l3 c3]] W fun e w' => e = .returned (.bool true) ∧ Below W.heap.size W w') (h9' : ∀ W, Below w.heap.size w W → Calls Tryd.prog 9 #[.agg #[.int .i64 1, .int .i64 (n2 : Int), .int .i64 Cap2, .slice B1 m1 d1, .slice B2 m2 d2, .slice B3 m3 d3]] W fun e w' => e = .returned (.bool true) ∧ Below W.heap.size W w')  :
    Calls Tryd.prog 4 #[.agg #[.int .i64 3, .int .i64 (n1 : Int), .int .i64 Cap1, .slice A1 l1 c1, .slice A2 l2 c2, .slice A3 l3 c3], .agg #[.int .i64 1, .int .i64 (n2 : Int), .int .i64 Cap2, .slice B1 m1 d1, .slice B2 m2 d2, .slice B3 m3 d3]] w fun e w' => e = .returned (.bool true) ∧ Below w.heap.size w w' := by
  have HS := Lib.hid (fun W => stands_any W)
  have H9 := Lib.hid h9
  have H9' := Lib.hid h9'
  clear h9 h9'
  go_enter Tryd.func4, Tryd.ntmps4
  go_wp2_with fail
  refine (HS.out _).mono ?_
  rintro e w1 ⟨rfl, hb1⟩
  have hbx1 := heap_keep (heap_old' (heap_new w (.cells #[.int .i64 3, .int .i64 (n1 : Int), .int .i64 Cap1, .slice A1 l1 c1, .slice A2 l2 c2, .slice A3 l3 c3] 25 (0, 0)) _ rfl) (.cells #[.int .i64 1, .int .i64 (n2 : Int), .int .i64 Cap2, .slice B1 m1 d1, .slice B2 m2 d2, .slice B3 m3 d3] 25 (0, 0))) hb1
  have hby1 := heap_keep (heap_new (w.alloc (.cells #[.int .i64 3, .int .i64 (n1 : Int), .int .i64 Cap1, .slice A1 l1 c1, .slice A2 l2 c2, .slice A3 l3 c3] 25 (0, 0))) (.cells #[.int .i64 1, .int .i64 (n2 : Int), .int .i64 Cap2, .slice B1 m1 d1, .slice B2 m2 d2, .slice B3 m3 d3] 25 (0, 0)) (w.heap.size + 1) (by simp)) hb1
  have HX1 := Lib.hid hbx1
  have HY1 := Lib.hid hby1
  have HB1 := Lib.hid (keep_trans (two_boxes w _ _) hb1)
  have x0 := blk_cell hbx1 0
  have x1 := blk_cell hbx1 1
  have x2 := blk_cell hbx1 2
  have x3 := blk_cell hbx1 3
  have x4 := blk_cell hbx1 4
  have x5 := blk_cell hbx1 5
  have y0 := blk_cell hby1 0
  have y1 := blk_cell hby1 1
  have y2 := blk_cell hby1 2
  have y3 := blk_cell hby1 3
  have y4 := blk_cell hby1 4
  have y5 := blk_cell hby1 5
  clear hb1 hbx1 hby1
  go_wp2_with fail
  refine (H9.out _ HB1.out).mono ?_
  rintro e w2 ⟨rfl, hb2⟩
  have hbx2 := heap_keep HX1.out hb2
  have hby2 := heap_keep HY1.out hb2
  have HX2 := Lib.hid hbx2
  have HY2 := Lib.hid hby2
  have HB2 := Lib.hid (keep_trans HB1.out hb2)
  clear x0 x1 x2 x3 x4 x5 y0 y1 y2 y3 y4 y5
  have x0 := blk_cell hbx2 0
  have x1 := blk_cell hbx2 1
  have x2 := blk_cell hbx2 2
  have x3 := blk_cell hbx2 3
  have x4 := blk_cell hbx2 4
  have x5 := blk_cell hbx2 5
  have y0 := blk_cell hby2 0
  have y1 := blk_cell hby2 1
  have y2 := blk_cell hby2 2
  have y3 := blk_cell hby2 3
  have y4 := blk_cell hby2 4
  have y5 := blk_cell hby2 5
  clear hb2 hbx2 hby2
  go_wp2_with fail
  refine (H9'.out _ HB2.out).mono ?_
  rintro e w3 ⟨rfl, hb3⟩
  have hbx3 := heap_keep HX2.out hb3
  have hby3 := heap_keep HY2.out hb3
  have HB3 := Lib.hid (keep_trans HB2.out hb3)
  clear x0 x1 x2 x3 x4 x5 y0 y1 y2 y3 y4 y5
  have x0 := blk_cell hbx3 0
  have x1 := blk_cell hbx3 1
  have x2 := blk_cell hbx3 2
  have x3 := blk_cell hbx3 3
  have x4 := blk_cell hbx3 4
  have x5 := blk_cell hbx3 5
  have y0 := blk_cell hby3 0
  have y1 := blk_cell hby3 1
  have y2 := blk_cell hby3 2
  have y3 := blk_cell hby3 3
  have y4 := blk_cell hby3 4
  have y5 := blk_cell hby3 5
  clear hb3 hbx3 hby3
  go_wp2_with fail
  refine (HS.out _).mono ?_
  rintro e w4 ⟨rfl, hb4⟩
  have HB4 := Lib.hid (keep_trans HB3.out hb4)
  clear hb4
  go_wp2
  go_ret
  exact ⟨rfl, HB4.out⟩

set_option maxRecDepth 200000 in
set_option maxHeartbeats 1000000 in
theorem beside_no32 (w : World) (n1 n2 Cap1 Cap2 : Int) (A1 A2 A3 B1 B2 B3 : Option Addr) (l1 c1 l2 c2 l3 c3 m1 d1 m2 d2 m3 d3 : Nat) (h9 : ∀ W, Below w.heap.size w W → Calls Tryd.prog 9 #[.agg #[.int .i64 3, .int .i64 (n1 : Int), .int .i64 Cap1, .slice A1 l1 c1, .slice A2 l2 c2, .slice A3 l3 c3]] W fun e w' => e = .returned (.bool true) ∧ Below W.heap.size W w') (h9' : ∀ W, Below w.heap.size w W → Calls Tryd.prog 9 #[.agg #[.int .i64 2, .int .i64 (n2 : Int), .int .i64 Cap2, .slice B1 m1 d1, .slice B2 m2 d2, .slice B3 m3 d3]] W fun e w' => e = .returned (.bool true) ∧ Below W.heap.size W w')  :
    Calls Tryd.prog 4 #[.agg #[.int .i64 3, .int .i64 (n1 : Int), .int .i64 Cap1, .slice A1 l1 c1, .slice A2 l2 c2, .slice A3 l3 c3], .agg #[.int .i64 2, .int .i64 (n2 : Int), .int .i64 Cap2, .slice B1 m1 d1, .slice B2 m2 d2, .slice B3 m3 d3]] w fun e w' => e = .returned (.bool true) ∧ Below w.heap.size w w' := by
  have HS := Lib.hid (fun W => stands_any W)
  have H9 := Lib.hid h9
  have H9' := Lib.hid h9'
  clear h9 h9'
  go_enter Tryd.func4, Tryd.ntmps4
  go_wp2_with fail
  refine (HS.out _).mono ?_
  rintro e w1 ⟨rfl, hb1⟩
  have hbx1 := heap_keep (heap_old' (heap_new w (.cells #[.int .i64 3, .int .i64 (n1 : Int), .int .i64 Cap1, .slice A1 l1 c1, .slice A2 l2 c2, .slice A3 l3 c3] 25 (0, 0)) _ rfl) (.cells #[.int .i64 2, .int .i64 (n2 : Int), .int .i64 Cap2, .slice B1 m1 d1, .slice B2 m2 d2, .slice B3 m3 d3] 25 (0, 0))) hb1
  have hby1 := heap_keep (heap_new (w.alloc (.cells #[.int .i64 3, .int .i64 (n1 : Int), .int .i64 Cap1, .slice A1 l1 c1, .slice A2 l2 c2, .slice A3 l3 c3] 25 (0, 0))) (.cells #[.int .i64 2, .int .i64 (n2 : Int), .int .i64 Cap2, .slice B1 m1 d1, .slice B2 m2 d2, .slice B3 m3 d3] 25 (0, 0)) (w.heap.size + 1) (by simp)) hb1
  have HX1 := Lib.hid hbx1
  have HY1 := Lib.hid hby1
  have HB1 := Lib.hid (keep_trans (two_boxes w _ _) hb1)
  have x0 := blk_cell hbx1 0
  have x1 := blk_cell hbx1 1
  have x2 := blk_cell hbx1 2
  have x3 := blk_cell hbx1 3
  have x4 := blk_cell hbx1 4
  have x5 := blk_cell hbx1 5
  have y0 := blk_cell hby1 0
  have y1 := blk_cell hby1 1
  have y2 := blk_cell hby1 2
  have y3 := blk_cell hby1 3
  have y4 := blk_cell hby1 4
  have y5 := blk_cell hby1 5
  clear hb1 hbx1 hby1
  go_wp2_with fail
  refine (H9.out _ HB1.out).mono ?_
  rintro e w2 ⟨rfl, hb2⟩
  have hbx2 := heap_keep HX1.out hb2
  have hby2 := heap_keep HY1.out hb2
  have HX2 := Lib.hid hbx2
  have HY2 := Lib.hid hby2
  have HB2 := Lib.hid (keep_trans HB1.out hb2)
  clear x0 x1 x2 x3 x4 x5 y0 y1 y2 y3 y4 y5
  have x0 := blk_cell hbx2 0
  have x1 := blk_cell hbx2 1
  have x2 := blk_cell hbx2 2
  have x3 := blk_cell hbx2 3
  have x4 := blk_cell hbx2 4
  have x5 := blk_cell hbx2 5
  have y0 := blk_cell hby2 0
  have y1 := blk_cell hby2 1
  have y2 := blk_cell hby2 2
  have y3 := blk_cell hby2 3
  have y4 := blk_cell hby2 4
  have y5 := blk_cell hby2 5
  clear hb2 hbx2 hby2
  go_wp2_with fail
  refine (H9'.out _ HB2.out).mono ?_
  rintro e w3 ⟨rfl, hb3⟩
  have hbx3 := heap_keep HX2.out hb3
  have hby3 := heap_keep HY2.out hb3
  have HB3 := Lib.hid (keep_trans HB2.out hb3)
  clear x0 x1 x2 x3 x4 x5 y0 y1 y2 y3 y4 y5
  have x0 := blk_cell hbx3 0
  have x1 := blk_cell hbx3 1
  have x2 := blk_cell hbx3 2
  have x3 := blk_cell hbx3 3
  have x4 := blk_cell hbx3 4
  have x5 := blk_cell hbx3 5
  have y0 := blk_cell hby3 0
  have y1 := blk_cell hby3 1
  have y2 := blk_cell hby3 2
  have y3 := blk_cell hby3 3
  have y4 := blk_cell hby3 4
  have y5 := blk_cell hby3 5
  clear hb3 hbx3 hby3
  go_wp2_with fail
  refine (HS.out _).mono ?_
  rintro e w4 ⟨rfl, hb4⟩
  have HB4 := Lib.hid (keep_trans HB3.out hb4)
  clear hb4
  go_wp2
  go_ret
  exact ⟨rfl, HB4.out⟩

set_option maxRecDepth 200000 in
set_option maxHeartbeats 1000000 in
theorem beside_no33 (w : World) (n1 n2 Cap1 Cap2 : Int) (A1 A2 A3 B1 B2 B3 : Option Addr) (l1 c1 l2 c2 l3 c3 m1 d1 m2 d2 m3 d3 : Nat) (h9 : ∀ W, Below w.heap.size w W → Calls Tryd.prog 9 #[.agg #[.int .i64 3, .int .i64 (n1 : Int), .int .i64 Cap1, .slice A1 l1 c1, .slice A2 l2 c2, .slice A3 l3 c3]] W fun e w' => e = .returned (.bool true) ∧ Below W.heap.size W w') (h9' : ∀ W, Below w.heap.size w W → Calls Tryd.prog 9 #[.agg #[.int .i64 3, .int .i64 (n2 : Int), .int .i64 Cap2, .slice B1 m1 d1, .slice B2 m2 d2, .slice B3 m3 d3]] W fun e w' => e = .returned (.bool true) ∧ Below W.heap.size W w')  :
    Calls Tryd.prog 4 #[.agg #[.int .i64 3, .int .i64 (n1 : Int), .int .i64 Cap1, .slice A1 l1 c1, .slice A2 l2 c2, .slice A3 l3 c3], .agg #[.int .i64 3, .int .i64 (n2 : Int), .int .i64 Cap2, .slice B1 m1 d1, .slice B2 m2 d2, .slice B3 m3 d3]] w fun e w' => e = .returned (.bool true) ∧ Below w.heap.size w w' := by
  have HS := Lib.hid (fun W => stands_any W)
  have H9 := Lib.hid h9
  have H9' := Lib.hid h9'
  clear h9 h9'
  go_enter Tryd.func4, Tryd.ntmps4
  go_wp2_with fail
  refine (HS.out _).mono ?_
  rintro e w1 ⟨rfl, hb1⟩
  have hbx1 := heap_keep (heap_old' (heap_new w (.cells #[.int .i64 3, .int .i64 (n1 : Int), .int .i64 Cap1, .slice A1 l1 c1, .slice A2 l2 c2, .slice A3 l3 c3] 25 (0, 0)) _ rfl) (.cells #[.int .i64 3, .int .i64 (n2 : Int), .int .i64 Cap2, .slice B1 m1 d1, .slice B2 m2 d2, .slice B3 m3 d3] 25 (0, 0))) hb1
  have hby1 := heap_keep (heap_new (w.alloc (.cells #[.int .i64 3, .int .i64 (n1 : Int), .int .i64 Cap1, .slice A1 l1 c1, .slice A2 l2 c2, .slice A3 l3 c3] 25 (0, 0))) (.cells #[.int .i64 3, .int .i64 (n2 : Int), .int .i64 Cap2, .slice B1 m1 d1, .slice B2 m2 d2, .slice B3 m3 d3] 25 (0, 0)) (w.heap.size + 1) (by simp)) hb1
  have HX1 := Lib.hid hbx1
  have HY1 := Lib.hid hby1
  have HB1 := Lib.hid (keep_trans (two_boxes w _ _) hb1)
  have x0 := blk_cell hbx1 0
  have x1 := blk_cell hbx1 1
  have x2 := blk_cell hbx1 2
  have x3 := blk_cell hbx1 3
  have x4 := blk_cell hbx1 4
  have x5 := blk_cell hbx1 5
  have y0 := blk_cell hby1 0
  have y1 := blk_cell hby1 1
  have y2 := blk_cell hby1 2
  have y3 := blk_cell hby1 3
  have y4 := blk_cell hby1 4
  have y5 := blk_cell hby1 5
  clear hb1 hbx1 hby1
  go_wp2_with fail
  refine (H9.out _ HB1.out).mono ?_
  rintro e w2 ⟨rfl, hb2⟩
  have hbx2 := heap_keep HX1.out hb2
  have hby2 := heap_keep HY1.out hb2
  have HX2 := Lib.hid hbx2
  have HY2 := Lib.hid hby2
  have HB2 := Lib.hid (keep_trans HB1.out hb2)
  clear x0 x1 x2 x3 x4 x5 y0 y1 y2 y3 y4 y5
  have x0 := blk_cell hbx2 0
  have x1 := blk_cell hbx2 1
  have x2 := blk_cell hbx2 2
  have x3 := blk_cell hbx2 3
  have x4 := blk_cell hbx2 4
  have x5 := blk_cell hbx2 5
  have y0 := blk_cell hby2 0
  have y1 := blk_cell hby2 1
  have y2 := blk_cell hby2 2
  have y3 := blk_cell hby2 3
  have y4 := blk_cell hby2 4
  have y5 := blk_cell hby2 5
  clear hb2 hbx2 hby2
  go_wp2_with fail
  refine (H9'.out _ HB2.out).mono ?_
  rintro e w3 ⟨rfl, hb3⟩
  have hbx3 := heap_keep HX2.out hb3
  have hby3 := heap_keep HY2.out hb3
  have HB3 := Lib.hid (keep_trans HB2.out hb3)
  clear x0 x1 x2 x3 x4 x5 y0 y1 y2 y3 y4 y5
  have x0 := blk_cell hbx3 0
  have x1 := blk_cell hbx3 1
  have x2 := blk_cell hbx3 2
  have x3 := blk_cell hbx3 3
  have x4 := blk_cell hbx3 4
  have x5 := blk_cell hbx3 5
  have y0 := blk_cell hby3 0
  have y1 := blk_cell hby3 1
  have y2 := blk_cell hby3 2
  have y3 := blk_cell hby3 3
  have y4 := blk_cell hby3 4
  have y5 := blk_cell hby3 5
  clear hb3 hbx3 hby3
  go_wp2_with fail
  refine (HS.out _).mono ?_
  rintro e w4 ⟨rfl, hb4⟩
  have HB4 := Lib.hid (keep_trans HB3.out hb4)
  clear hb4
  go_wp2
  go_ret
  exact ⟨rfl, HB4.out⟩

set_option maxRecDepth 200000 in
set_option maxHeartbeats 1000000 in
theorem beside_no22a (w : World) (n1 n2 Cap1 Cap2 : Int) (A1 A2 A3 B1 B2 B3 : Option Addr) (l1 c1 l2 c2 l3 c3 m1 d1 m2 d2 m3 d3 : Nat) (h9 : ∀ W, Below w.heap.size w W → Calls Tryd.prog 9 #[.agg #[.int .i64 2, .int .i64 (n1 : Int), .int .i64 Cap1, .slice A1 l1 c1, .slice A2 l2 c2, .slice A3 l3 c3]] W fun e w' => e = .returned (.bool true) ∧ Below W.heap.size W w') (h9' : ∀ W, Below w.heap.size w W → Calls Tryd.prog 9 #[.agg #[.int .i64 2, .int .i64 (n2 : Int), .int .i64 Cap2, .slice B1 m1 d1, .slice B2 m2 d2, .slice B3 m3 d3]] W fun e w' => e = .returned (.bool true) ∧ Below W.heap.size W w') (hf0 : 8 < n1) :
    Calls Tryd.prog 4 #[.agg #[.int .i64 2, .int .i64 (n1 : Int), .int .i64 Cap1, .slice A1 l1 c1, .slice A2 l2 c2, .slice A3 l3 c3], .agg #[.int .i64 2, .int .i64 (n2 : Int), .int .i64 Cap2, .slice B1 m1 d1, .slice B2 m2 d2, .slice B3 m3 d3]] w fun e w' => e = .returned (.bool true) ∧ Below w.heap.size w w' := by
  have HS := Lib.hid (fun W => stands_any W)
  have H9 := Lib.hid h9
  have H9' := Lib.hid h9'
  clear h9 h9'
  go_enter Tryd.func4, Tryd.ntmps4
  go_wp2_with fail
  refine (HS.out _).mono ?_
  rintro e w1 ⟨rfl, hb1⟩
  have hbx1 := heap_keep (heap_old' (heap_new w (.cells #[.int .i64 2, .int .i64 (n1 : Int), .int .i64 Cap1, .slice A1 l1 c1, .slice A2 l2 c2, .slice A3 l3 c3] 25 (0, 0)) _ rfl) (.cells #[.int .i64 2, .int .i64 (n2 : Int), .int .i64 Cap2, .slice B1 m1 d1, .slice B2 m2 d2, .slice B3 m3 d3] 25 (0, 0))) hb1
  have hby1 := heap_keep (heap_new (w.alloc (.cells #[.int .i64 2, .int .i64 (n1 : Int), .int .i64 Cap1, .slice A1 l1 c1, .slice A2 l2 c2, .slice A3 l3 c3] 25 (0, 0))) (.cells #[.int .i64 2, .int .i64 (n2 : Int), .int .i64 Cap2, .slice B1 m1 d1, .slice B2 m2 d2, .slice B3 m3 d3] 25 (0, 0)) (w.heap.size + 1) (by simp)) hb1
  have HX1 := Lib.hid hbx1
  have HY1 := Lib.hid hby1
  have HB1 := Lib.hid (keep_trans (two_boxes w _ _) hb1)
  have x0 := blk_cell hbx1 0
  have x1 := blk_cell hbx1 1
  have x2 := blk_cell hbx1 2
  have x3 := blk_cell hbx1 3
  have x4 := blk_cell hbx1 4
  have x5 := blk_cell hbx1 5
  have y0 := blk_cell hby1 0
  have y1 := blk_cell hby1 1
  have y2 := blk_cell hby1 2
  have y3 := blk_cell hby1 3
  have y4 := blk_cell hby1 4
  have y5 := blk_cell hby1 5
  clear hb1 hbx1 hby1
  go_wp2_with fail
  refine (H9.out _ HB1.out).mono ?_
  rintro e w2 ⟨rfl, hb2⟩
  have hbx2 := heap_keep HX1.out hb2
  have hby2 := heap_keep HY1.out hb2
  have HX2 := Lib.hid hbx2
  have HY2 := Lib.hid hby2
  have HB2 := Lib.hid (keep_trans HB1.out hb2)
  clear x0 x1 x2 x3 x4 x5 y0 y1 y2 y3 y4 y5
  have x0 := blk_cell hbx2 0
  have x1 := blk_cell hbx2 1
  have x2 := blk_cell hbx2 2
  have x3 := blk_cell hbx2 3
  have x4 := blk_cell hbx2 4
  have x5 := blk_cell hbx2 5
  have y0 := blk_cell hby2 0
  have y1 := blk_cell hby2 1
  have y2 := blk_cell hby2 2
  have y3 := blk_cell hby2 3
  have y4 := blk_cell hby2 4
  have y5 := blk_cell hby2 5
  clear hb2 hbx2 hby2
  go_wp2_with fail
  refine (H9'.out _ HB2.out).mono ?_
  rintro e w3 ⟨rfl, hb3⟩
  have hbx3 := heap_keep HX2.out hb3
  have hby3 := heap_keep HY2.out hb3
  have HB3 := Lib.hid (keep_trans HB2.out hb3)
  clear x0 x1 x2 x3 x4 x5 y0 y1 y2 y3 y4 y5
  have x0 := blk_cell hbx3 0
  have x1 := blk_cell hbx3 1
  have x2 := blk_cell hbx3 2
  have x3 := blk_cell hbx3 3
  have x4 := blk_cell hbx3 4
  have x5 := blk_cell hbx3 5
  have y0 := blk_cell hby3 0
  have y1 := blk_cell hby3 1
  have y2 := blk_cell hby3 2
  have y3 := blk_cell hby3 3
  have y4 := blk_cell hby3 4
  have y5 := blk_cell hby3 5
  clear hb3 hbx3 hby3
  go_wp2_with fail
  refine (HS.out _).mono ?_
  rintro e w4 ⟨rfl, hb4⟩
  have HB4 := Lib.hid (keep_trans HB3.out hb4)
  clear hb4
  go_wp2
  go_ret
  exact ⟨rfl, HB4.out⟩

set_option maxRecDepth 200000 in
set_option maxHeartbeats 1000000 in
theorem beside_no22b (w : World) (n1 n2 Cap1 Cap2 : Int) (A1 A2 A3 B1 B2 B3 : Option Addr) (l1 c1 l2 c2 l3 c3 m1 d1 m2 d2 m3 d3 : Nat) (h9 : ∀ W, Below w.heap.size w W → Calls Tryd.prog 9 #[.agg #[.int .i64 2, .int .i64 (n1 : Int), .int .i64 Cap1, .slice A1 l1 c1, .slice A2 l2 c2, .slice A3 l3 c3]] W fun e w' => e = .returned (.bool true) ∧ Below W.heap.size W w') (h9' : ∀ W, Below w.heap.size w W → Calls Tryd.prog 9 #[.agg #[.int .i64 2, .int .i64 (n2 : Int), .int .i64 Cap2, .slice B1 m1 d1, .slice B2 m2 d2, .slice B3 m3 d3]] W fun e w' => e = .returned (.bool true) ∧ Below W.heap.size W w') (hf0 : n1 ≤ 8) (hf1 : 8 < n2) :
    Calls Tryd.prog 4 #[.agg #[.int .i64 2, .int .i64 (n1 : Int), .int .i64 Cap1, .slice A1 l1 c1, .slice A2 l2 c2, .slice A3 l3 c3], .agg #[.int .i64 2, .int .i64 (n2 : Int), .int .i64 Cap2, .slice B1 m1 d1, .slice B2 m2 d2, .slice B3 m3 d3]] w fun e w' => e = .returned (.bool true) ∧ Below w.heap.size w w' := by
  have HS := Lib.hid (fun W => stands_any W)
  have H9 := Lib.hid h9
  have H9' := Lib.hid h9'
  clear h9 h9'
  go_enter Tryd.func4, Tryd.ntmps4
  go_wp2_with fail
  refine (HS.out _).mono ?_
  rintro e w1 ⟨rfl, hb1⟩
  have hbx1 := heap_keep (heap_old' (heap_new w (.cells #[.int .i64 2, .int .i64 (n1 : Int), .int .i64 Cap1, .slice A1 l1 c1, .slice A2 l2 c2, .slice A3 l3 c3] 25 (0, 0)) _ rfl) (.cells #[.int .i64 2, .int .i64 (n2 : Int), .int .i64 Cap2, .slice B1 m1 d1, .slice B2 m2 d2, .slice B3 m3 d3] 25 (0, 0))) hb1
  have hby1 := heap_keep (heap_new (w.alloc (.cells #[.int .i64 2, .int .i64 (n1 : Int), .int .i64 Cap1, .slice A1 l1 c1, .slice A2 l2 c2, .slice A3 l3 c3] 25 (0, 0))) (.cells #[.int .i64 2, .int .i64 (n2 : Int), .int .i64 Cap2, .slice B1 m1 d1, .slice B2 m2 d2, .slice B3 m3 d3] 25 (0, 0)) (w.heap.size + 1) (by simp)) hb1
  have HX1 := Lib.hid hbx1
  have HY1 := Lib.hid hby1
  have HB1 := Lib.hid (keep_trans (two_boxes w _ _) hb1)
  have x0 := blk_cell hbx1 0
  have x1 := blk_cell hbx1 1
  have x2 := blk_cell hbx1 2
  have x3 := blk_cell hbx1 3
  have x4 := blk_cell hbx1 4
  have x5 := blk_cell hbx1 5
  have y0 := blk_cell hby1 0
  have y1 := blk_cell hby1 1
  have y2 := blk_cell hby1 2
  have y3 := blk_cell hby1 3
  have y4 := blk_cell hby1 4
  have y5 := blk_cell hby1 5
  clear hb1 hbx1 hby1
  go_wp2_with fail
  refine (H9.out _ HB1.out).mono ?_
  rintro e w2 ⟨rfl, hb2⟩
  have hbx2 := heap_keep HX1.out hb2
  have hby2 := heap_keep HY1.out hb2
  have HX2 := Lib.hid hbx2
  have HY2 := Lib.hid hby2
  have HB2 := Lib.hid (keep_trans HB1.out hb2)
  clear x0 x1 x2 x3 x4 x5 y0 y1 y2 y3 y4 y5
  have x0 := blk_cell hbx2 0
  have x1 := blk_cell hbx2 1
  have x2 := blk_cell hbx2 2
  have x3 := blk_cell hbx2 3
  have x4 := blk_cell hbx2 4
  have x5 := blk_cell hbx2 5
  have y0 := blk_cell hby2 0
  have y1 := blk_cell hby2 1
  have y2 := blk_cell hby2 2
  have y3 := blk_cell hby2 3
  have y4 := blk_cell hby2 4
  have y5 := blk_cell hby2 5
  clear hb2 hbx2 hby2
  go_wp2_with fail
  refine (H9'.out _ HB2.out).mono ?_
  rintro e w3 ⟨rfl, hb3⟩
  have hbx3 := heap_keep HX2.out hb3
  have hby3 := heap_keep HY2.out hb3
  have HB3 := Lib.hid (keep_trans HB2.out hb3)
  clear x0 x1 x2 x3 x4 x5 y0 y1 y2 y3 y4 y5
  have x0 := blk_cell hbx3 0
  have x1 := blk_cell hbx3 1
  have x2 := blk_cell hbx3 2
  have x3 := blk_cell hbx3 3
  have x4 := blk_cell hbx3 4
  have x5 := blk_cell hbx3 5
  have y0 := blk_cell hby3 0
  have y1 := blk_cell hby3 1
  have y2 := blk_cell hby3 2
  have y3 := blk_cell hby3 3
  have y4 := blk_cell hby3 4
  have y5 := blk_cell hby3 5
  clear hb3 hbx3 hby3
  go_wp2_with fail
  refine (HS.out _).mono ?_
  rintro e w4 ⟨rfl, hb4⟩
  have HB4 := Lib.hid (keep_trans HB3.out hb4)
  clear hb4
  go_wp2
  go_ret
  exact ⟨rfl, HB4.out⟩

set_option maxRecDepth 200000 in
set_option maxHeartbeats 1000000 in
theorem beside_no11a (w : World) (n1 n2 Cap1 Cap2 : Int) (A1 A2 A3 B1 B2 B3 : Option Addr) (l1 c1 l2 c2 l3 c3 m1 d1 m2 d2 m3 d3 : Nat) (h9 : ∀ W, Below w.heap.size w W → Calls Tryd.prog 9 #[.agg #[.int .i64 1, .int .i64 (n1 : Int), .int .i64 Cap1, .slice A1 l1 c1, .slice A2 l2 c2, .slice A3 l3 c3]] W fun e w' => e = .returned (.bool true) ∧ Below W.heap.size W w') (h9' : ∀ W, Below w.heap.size w W → Calls Tryd.prog 9 #[.agg #[.int .i64 1, .int .i64 (n2 : Int), .int .i64 Cap2, .slice B1 m1 d1, .slice B2 m2 d2, .slice B3 m3 d3]] W fun e w' => e = .returned (.bool true) ∧ Below W.heap.size W w') (hf0 : 8 < n1) :
    Calls Tryd.prog 4 #[.agg #[.int .i64 1, .int .i64 (n1 : Int), .int .i64 Cap1, .slice A1 l1 c1, .slice A2 l2 c2, .slice A3 l3 c3], .agg #[.int .i64 1, .int .i64 (n2 : Int), .int .i64 Cap2, .slice B1 m1 d1, .slice B2 m2 d2, .slice B3 m3 d3]] w fun e w' => e = .returned (.bool true) ∧ Below w.heap.size w w' := by
  have HS := Lib.hid (fun W => stands_any W)
  have H9 := Lib.hid h9
  have H9' := Lib.hid h9'
  clear h9 h9'
  go_enter Tryd.func4, Tryd.ntmps4
  go_wp2_with fail
  refine (HS.out _).mono ?_
  rintro e w1 ⟨rfl, hb1⟩
  have hbx1 := heap_keep (heap_old' (heap_new w (.cells #[.int .i64 1, .int .i64 (n1 : Int), .int .i64 Cap1, .slice A1 l1 c1, .slice A2 l2 c2, .slice A3 l3 c3] 25 (0, 0)) _ rfl) (.cells #[.int .i64 1, .int .i64 (n2 : Int), .int .i64 Cap2, .slice B1 m1 d1, .slice B2 m2 d2, .slice B3 m3 d3] 25 (0, 0))) hb1
  have hby1 := heap_keep (heap_new (w.alloc (.cells #[.int .i64 1, .int .i64 (n1 : Int), .int .i64 Cap1, .slice A1 l1 c1, .slice A2 l2 c2, .slice A3 l3 c3] 25 (0, 0))) (.cells #[.int .i64 1, .int .i64 (n2 : Int), .int .i64 Cap2, .slice B1 m1 d1, .slice B2 m2 d2, .slice B3 m3 d3] 25 (0, 0)) (w.heap.size + 1) (by simp)) hb1
  have HX1 := Lib.hid hbx1
  have HY1 := Lib.hid hby1
  have HB1 := Lib.hid (keep_trans (two_boxes w _ _) hb1)
  have x0 := blk_cell hbx1 0
  have x1 := blk_cell hbx1 1
  have x2 := blk_cell hbx1 2
  have x3 := blk_cell hbx1 3
  have x4 := blk_cell hbx1 4
  have x5 := blk_cell hbx1 5
  have y0 := blk_cell hby1 0
  have y1 := blk_cell hby1 1
  have y2 := blk_cell hby1 2
  have y3 := blk_cell hby1 3
  have y4 := blk_cell hby1 4
  have y5 := blk_cell hby1 5
  clear hb1 hbx1 hby1
  go_wp2_with fail
  refine (H9.out _ HB1.out).mono ?_
  rintro e w2 ⟨rfl, hb2⟩
  have hbx2 := heap_keep HX1.out hb2
  have hby2 := heap_keep HY1.out hb2
  have HX2 := Lib.hid hbx2
  have HY2 := Lib.hid hby2
  have HB2 := Lib.hid (keep_trans HB1.out hb2)
  clear x0 x1 x2 x3 x4 x5 y0 y1 y2 y3 y4 y5
  have x0 := blk_cell hbx2 0
  have x1 := blk_cell hbx2 1
  have x2 := blk_cell hbx2 2
  have x3 := blk_cell hbx2 3
  have x4 := blk_cell hbx2 4
  have x5 := blk_cell hbx2 5
  have y0 := blk_cell hby2 0
  have y1 := blk_cell hby2 1
  have y2 := blk_cell hby2 2
  have y3 := blk_cell hby2 3
  have y4 := blk_cell hby2 4
  have y5 := blk_cell hby2 5
  clear hb2 hbx2 hby2
  go_wp2_with fail
  refine (H9'.out _ HB2.out).mono ?_
  rintro e w3 ⟨rfl, hb3⟩
  have hbx3 := heap_keep HX2.out hb3
  have hby3 := heap_keep HY2.out hb3
  have HB3 := Lib.hid (keep_trans HB2.out hb3)
  clear x0 x1 x2 x3 x4 x5 y0 y1 y2 y3 y4 y5
  have x0 := blk_cell hbx3 0
  have x1 := blk_cell hbx3 1
  have x2 := blk_cell hbx3 2
  have x3 := blk_cell hbx3 3
  have x4 := blk_cell hbx3 4
  have x5 := blk_cell hbx3 5
  have y0 := blk_cell hby3 0
  have y1 := blk_cell hby3 1
  have y2 := blk_cell hby3 2
  have y3 := blk_cell hby3 3
  have y4 := blk_cell hby3 4
  have y5 := blk_cell hby3 5
  clear hb3 hbx3 hby3
  go_wp2_with fail
  refine (HS.out _).mono ?_
  rintro e w4 ⟨rfl, hb4⟩
  have HB4 := Lib.hid (keep_trans HB3.out hb4)
  clear hb4
  go_wp2
  go_ret
  exact ⟨rfl, HB4.out⟩

set_option maxRecDepth 200000 in
set_option maxHeartbeats 1000000 in
theorem beside_no11b (w : World) (n1 n2 Cap1 Cap2 : Int) (A1 A2 A3 B1 B2 B3 : Option Addr) (l1 c1 l2 c2 l3 c3 m1 d1 m2 d2 m3 d3 : Nat) (h9 : ∀ W, Below w.heap.size w W → Calls Tryd.prog 9 #[.agg #[.int .i64 1, .int .i64 (n1 : Int), .int .i64 Cap1, .slice A1 l1 c1, .slice A2 l2 c2, .slice A3 l3 c3]] W fun e w' => e = .returned (.bool true) ∧ Below W.heap.size W w') (h9' : ∀ W, Below w.heap.size w W → Calls Tryd.prog 9 #[.agg #[.int .i64 1, .int .i64 (n2 : Int), .int .i64 Cap2, .slice B1 m1 d1, .slice B2 m2 d2, .slice B3 m3 d3]] W fun e w' => e = .returned (.bool true) ∧ Below W.heap.size W w') (hf0 : n1 ≤ 8) (hf1 : 8 < n2) :
    Calls Tryd.prog 4 #[.agg #[.int .i64 1, .int .i64 (n1 : Int), .int .i64 Cap1, .slice A1 l1 c1, .slice A2 l2 c2, .slice A3 l3 c3], .agg #[.int .i64 1, .int .i64 (n2 : Int), .int .i64 Cap2, .slice B1 m1 d1, .slice B2 m2 d2, .slice B3 m3 d3]] w fun e w' => e = .returned (.bool true) ∧ Below w.heap.size w w' := by
  have HS := Lib.hid (fun W => stands_any W)
  have H9 := Lib.hid h9
  have H9' := Lib.hid h9'
  clear h9 h9'
  go_enter Tryd.func4, Tryd.ntmps4
  go_wp2_with fail
  refine (HS.out _).mono ?_
  rintro e w1 ⟨rfl, hb1⟩
  have hbx1 := heap_keep (heap_old' (heap_new w (.cells #[.int .i64 1, .int .i64 (n1 : Int), .int .i64 Cap1, .slice A1 l1 c1, .slice A2 l2 c2, .slice A3 l3 c3] 25 (0, 0)) _ rfl) (.cells #[.int .i64 1, .int .i64 (n2 : Int), .int .i64 Cap2, .slice B1 m1 d1, .slice B2 m2 d2, .slice B3 m3 d3] 25 (0, 0))) hb1
  have hby1 := heap_keep (heap_new (w.alloc (.cells #[.int .i64 1, .int .i64 (n1 : Int), .int .i64 Cap1, .slice A1 l1 c1, .slice A2 l2 c2, .slice A3 l3 c3] 25 (0, 0))) (.cells #[.int .i64 1, .int .i64 (n2 : Int), .int .i64 Cap2, .slice B1 m1 d1, .slice B2 m2 d2, .slice B3 m3 d3] 25 (0, 0)) (w.heap.size + 1) (by simp)) hb1
  have HX1 := Lib.hid hbx1
  have HY1 := Lib.hid hby1
  have HB1 := Lib.hid (keep_trans (two_boxes w _ _) hb1)
  have x0 := blk_cell hbx1 0
  have x1 := blk_cell hbx1 1
  have x2 := blk_cell hbx1 2
  have x3 := blk_cell hbx1 3
  have x4 := blk_cell hbx1 4
  have x5 := blk_cell hbx1 5
  have y0 := blk_cell hby1 0
  have y1 := blk_cell hby1 1
  have y2 := blk_cell hby1 2
  have y3 := blk_cell hby1 3
  have y4 := blk_cell hby1 4
  have y5 := blk_cell hby1 5
  clear hb1 hbx1 hby1
  go_wp2_with fail
  refine (H9.out _ HB1.out).mono ?_
  rintro e w2 ⟨rfl, hb2⟩
  have hbx2 := heap_keep HX1.out hb2
  have hby2 := heap_keep HY1.out hb2
  have HX2 := Lib.hid hbx2
  have HY2 := Lib.hid hby2
  have HB2 := Lib.hid (keep_trans HB1.out hb2)
  clear x0 x1 x2 x3 x4 x5 y0 y1 y2 y3 y4 y5
  have x0 := blk_cell hbx2 0
  have x1 := blk_cell hbx2 1
  have x2 := blk_cell hbx2 2
  have x3 := blk_cell hbx2 3
  have x4 := blk_cell hbx2 4
  have x5 := blk_cell hbx2 5
  have y0 := blk_cell hby2 0
  have y1 := blk_cell hby2 1
  have y2 := blk_cell hby2 2
  have y3 := blk_cell hby2 3
  have y4 := blk_cell hby2 4
  have y5 := blk_cell hby2 5
  clear hb2 hbx2 hby2
  go_wp2_with fail
  refine (H9'.out _ HB2.out).mono ?_
  rintro e w3 ⟨rfl, hb3⟩
  have hbx3 := heap_keep HX2.out hb3
  have hby3 := heap_keep HY2.out hb3
  have HB3 := Lib.hid (keep_trans HB2.out hb3)
  clear x0 x1 x2 x3 x4 x5 y0 y1 y2 y3 y4 y5
  have x0 := blk_cell hbx3 0
  have x1 := blk_cell hbx3 1
  have x2 := blk_cell hbx3 2
  have x3 := blk_cell hbx3 3
  have x4 := blk_cell hbx3 4
  have x5 := blk_cell hbx3 5
  have y0 := blk_cell hby3 0
  have y1 := blk_cell hby3 1
  have y2 := blk_cell hby3 2
  have y3 := blk_cell hby3 3
  have y4 := blk_cell hby3 4
  have y5 := blk_cell hby3 5
  clear hb3 hbx3 hby3
  go_wp2_with fail
  refine (HS.out _).mono ?_
  rintro e w4 ⟨rfl, hb4⟩
  have HB4 := Lib.hid (keep_trans HB3.out hb4)
  clear hb4
  go_wp2
  go_ret
  exact ⟨rfl, HB4.out⟩

set_option maxRecDepth 200000 in
set_option maxHeartbeats 1000000 in
theorem beside_no11c (w : World) (n1 n2 Cap1 Cap2 : Int) (A1 A2 A3 B1 B2 B3 : Option Addr) (l1 c1 l2 c2 l3 c3 m1 d1 m2 d2 m3 d3 : Nat) (h9 : ∀ W, Below w.heap.size w W → Calls Tryd.prog 9 #[.agg #[.int .i64 1, .int .i64 (n1 : Int), .int .i64 Cap1, .slice A1 l1 c1, .slice A2 l2 c2, .slice A3 l3 c3]] W fun e w' => e = .returned (.bool true) ∧ Below W.heap.size W w') (h9' : ∀ W, Below w.heap.size w W → Calls Tryd.prog 9 #[.agg #[.int .i64 1, .int .i64 (n2 : Int), .int .i64 Cap2, .slice B1 m1 d1, .slice B2 m2 d2, .slice B3 m3 d3]] W fun e w' => e = .returned (.bool true) ∧ Below W.heap.size W w') (hf0 : n1 ≤ 8) (hf1 : n2 ≤ 8) (hf2 : 7 < n1) :
    Calls Tryd.prog 4 #[.agg #[.int .i64 1, .int .i64 (n1 : Int), .int .i64 Cap1, .slice A1 l1 c1, .slice A2 l2 c2, .slice A3 l3 c3], .agg #[.int .i64 1, .int .i64 (n2 : Int), .int .i64 Cap2, .slice B1 m1 d1, .slice B2 m2 d2, .slice B3 m3 d3]] w fun e w' => e = .returned (.bool true) ∧ Below w.heap.size w w' := by
  have HS := Lib.hid (fun W => stands_any W)
  have H9 := Lib.hid h9
  have H9' := Lib.hid h9'
  clear h9 h9'
  go_enter Tryd.func4, Tryd.ntmps4
  go_wp2_with fail
  refine (HS.out _).mono ?_
  rintro e w1 ⟨rfl, hb1⟩
  have hbx1 := heap_keep (heap_old' (heap_new w (.cells #[.int .i64 1, .int .i64 (n1 : Int), .int .i64 Cap1, .slice A1 l1 c1, .slice A2 l2 c2, .slice A3 l3 c3] 25 (0, 0)) _ rfl) (.cells #[.int .i64 1, .int .i64 (n2 : Int), .int .i64 Cap2, .slice B1 m1 d1, .slice B2 m2 d2, .slice B3 m3 d3] 25 (0, 0))) hb1
  have hby1 := heap_keep (heap_new (w.alloc (.cells #[.int .i64 1, .int .i64 (n1 : Int), .int .i64 Cap1, .slice A1 l1 c1, .slice A2 l2 c2, .slice A3 l3 c3] 25 (0, 0))) (.cells #[.int .i64 1, .int .i64 (n2 : Int), .int .i64 Cap2, .slice B1 m1 d1, .slice B2 m2 d2, .slice B3 m3 d3] 25 (0, 0)) (w.heap.size + 1) (by simp)) hb1
  have HX1 := Lib.hid hbx1
  have HY1 := Lib.hid hby1
  have HB1 := Lib.hid (keep_trans (two_boxes w _ _) hb1)
  have x0 := blk_cell hbx1 0
  have x1 := blk_cell hbx1 1
  have x2 := blk_cell hbx1 2
  have x3 := blk_cell hbx1 3
  have x4 := blk_cell hbx1 4
  have x5 := blk_cell hbx1 5
  have y0 := blk_cell hby1 0
  have y1 := blk_cell hby1 1
  have y2 := blk_cell hby1 2
  have y3 := blk_cell hby1 3
  have y4 := blk_cell hby1 4
  have y5 := blk_cell hby1 5
  clear hb1 hbx1 hby1
  go_wp2_with fail
  refine (H9.out _ HB1.out).mono ?_
  rintro e w2 ⟨rfl, hb2⟩
  have hbx2 := heap_keep HX1.out hb2
  have hby2 := heap_keep HY1.out hb2
  have HX2 := Lib.hid hbx2
  have HY2 := Lib.hid hby2
  have HB2 := Lib.hid (keep_trans HB1.out hb2)
  clear x0 x1 x2 x3 x4 x5 y0 y1 y2 y3 y4 y5
  have x0 := blk_cell hbx2 0
  have x1 := blk_cell hbx2 1
  have x2 := blk_cell hbx2 2
  have x3 := blk_cell hbx2 3
  have x4 := blk_cell hbx2 4
  have x5 := blk_cell hbx2 5
  have y0 := blk_cell hby2 0
  have y1 := blk_cell hby2 1
  have y2 := blk_cell hby2 2
  have y3 := blk_cell hby2 3
  have y4 := blk_cell hby2 4
  have y5 := blk_cell hby2 5
  clear hb2 hbx2 hby2
  go_wp2_with fail
  refine (H9'.out _ HB2.out).mono ?_
  rintro e w3 ⟨rfl, hb3⟩
  have hbx3 := heap_keep HX2.out hb3
  have hby3 := heap_keep HY2.out hb3
  have HB3 := Lib.hid (keep_trans HB2.out hb3)
  clear x0 x1 x2 x3 x4 x5 y0 y1 y2 y3 y4 y5
  have x0 := blk_cell hbx3 0
  have x1 := blk_cell hbx3 1
  have x2 := blk_cell hbx3 2
  have x3 := blk_cell hbx3 3
  have x4 := blk_cell hbx3 4
  have x5 := blk_cell hbx3 5
  have y0 := blk_cell hby3 0
  have y1 := blk_cell hby3 1
  have y2 := blk_cell hby3 2
  have y3 := blk_cell hby3 3
  have y4 := blk_cell hby3 4
  have y5 := blk_cell hby3 5
  clear hb3 hbx3 hby3
  go_wp2_with fail
  refine (HS.out _).mono ?_
  rintro e w4 ⟨rfl, hb4⟩
  have HB4 := Lib.hid (keep_trans HB3.out hb4)
  clear hb4
  go_wp2
  go_ret
  exact ⟨rfl, HB4.out⟩

set_option maxRecDepth 200000 in
set_option maxHeartbeats 1000000 in
theorem beside_no11d (w : World) (n1 n2 Cap1 Cap2 : Int) (A1 A2 A3 B1 B2 B3 : Option Addr) (l1 c1 l2 c2 l3 c3 m1 d1 m2 d2 m3 d3 : Nat) (h9 : ∀ W, Below w.heap.size w W → Calls Tryd.prog 9 #[.agg #[.int .i64 1, .int .i64 (n1 : Int), .int .i64 Cap1, .slice A1 l1 c1, .slice A2 l2 c2, .slice A3 l3 c3]] W fun e w' => e = .returned (.bool true) ∧ Below W.heap.size W w') (h9' : ∀ W, Below w.heap.size w W → Calls Tryd.prog 9 #[.agg #[.int .i64 1, .int .i64 (n2 : Int), .int .i64 Cap2, .slice B1 m1 d1, .slice B2 m2 d2, .slice B3 m3 d3]] W fun e w' => e = .returned (.bool true) ∧ Below W.heap.size W w') (hf0 : n1 ≤ 7) (hf1 : n1 ≤ 8) (hf2 : n2 ≤ 8) (hf3 : 7 < n2) :
    Calls Tryd.prog 4 #[.agg #[.int .i64 1, .int .i64 (n1 : Int), .int .i64 Cap1, .slice A1 l1 c1, .slice A2 l2 c2, .slice A3 l3 c3], .agg #[.int .i64 1, .int .i64 (n2 : Int), .int .i64 Cap2, .slice B1 m1 d1, .slice B2 m2 d2, .slice B3 m3 d3]] w fun e w' => e = .returned (.bool true) ∧ Below w.heap.size w w' := by
  have HS := Lib.hid (fun W => stands_any W)
  have H9 := Lib.hid h9
  have H9' := Lib.hid h9'
  clear h9 h9'
  go_enter Tryd.func4, Tryd.ntmps4
  go_wp2_with fail
  refine (HS.out _).mono ?_
  rintro e w1 ⟨rfl, hb1⟩
  have hbx1 := heap_keep (heap_old' (heap_new w (.cells #[.int .i64 1, .int .i64 (n1 : Int), .int .i64 Cap1, .slice A1 l1 c1, .slice A2 l2 c2, .slice A3 l3 c3] 25 (0, 0)) _ rfl) (.cells #[.int .i64 1, .int .i64 (n2 : Int), .int .i64 Cap2, .slice B1 m1 d1, .slice B2 m2 d2, .slice B3 m3 d3] 25 (0, 0))) hb1
  have hby1 := heap_keep (heap_new (w.alloc (.cells #[.int .i64 1, .int .i64 (n1 : Int), .int .i64 Cap1, .slice A1 l1 c1, .slice A2 l2 c2, .slice A3 l3 c3] 25 (0, 0))) (.cells #[.int .i64 1, .int .i64 (n2 : Int), .int .i64 Cap2, .slice B1 m1 d1, .slice B2 m2 d2, .slice B3 m3 d3] 25 (0, 0)) (w.heap.size + 1) (by simp)) hb1
  have HX1 := Lib.hid hbx1
  have HY1 := Lib.hid hby1
  have HB1 := Lib.hid (keep_trans (two_boxes w _ _) hb1)
  have x0 := blk_cell hbx1 0
  have x1 := blk_cell hbx1 1
  have x2 := blk_cell hbx1 2
  have x3 := blk_cell hbx1 3
  have x4 := blk_cell hbx1 4
  have x5 := blk_cell hbx1 5
  have y0 := blk_cell hby1 0
  have y1 := blk_cell hby1 1
  have y2 := blk_cell hby1 2
  have y3 := blk_cell hby1 3
  have y4 := blk_cell hby1 4
  have y5 := blk_cell hby1 5
  clear hb1 hbx1 hby1
  go_wp2_with fail
  refine (H9.out _ HB1.out).mono ?_
  rintro e w2 ⟨rfl, hb2⟩
  have hbx2 := heap_keep HX1.out hb2
  have hby2 := heap_keep HY1.out hb2
  have HX2 := Lib.hid hbx2
  have HY2 := Lib.hid hby2
  have HB2 := Lib.hid (keep_trans HB1.out hb2)
  clear x0 x1 x2 x3 x4 x5 y0 y1 y2 y3 y4 y5
  have x0 := blk_cell hbx2 0
  have x1 := blk_cell hbx2 1
  have x2 := blk_cell hbx2 2
  have x3 := blk_cell hbx2 3
  have x4 := blk_cell hbx2 4
  have x5 := blk_cell hbx2 5
  have y0 := blk_cell hby2 0
  have y1 := blk_cell hby2 1
  have y2 := blk_cell hby2 2
  have y3 := blk_cell hby2 3
  have y4 := blk_cell hby2 4
  have y5 := blk_cell hby2 5
  clear hb2 hbx2 hby2
  go_wp2_with fail
  refine (H9'.out _ HB2.out).mono ?_
  rintro e w3 ⟨rfl, hb3⟩
  have hbx3 := heap_keep HX2.out hb3
  have hby3 := heap_keep HY2.out hb3
  have HB3 := Lib.hid (keep_trans HB2.out hb3)
  clear x0 x1 x2 x3 x4 x5 y0 y1 y2 y3 y4 y5
  have x0 := blk_cell hbx3 0
  have x1 := blk_cell hbx3 1
  have x2 := blk_cell hbx3 2
  have x3 := blk_cell hbx3 3
  have x4 := blk_cell hbx3 4
  have x5 := blk_cell hbx3 5
  have y0 := blk_cell hby3 0
  have y1 := blk_cell hby3 1
  have y2 := blk_cell hby3 2
  have y3 := blk_cell hby3 3
  have y4 := blk_cell hby3 4
  have y5 := blk_cell hby3 5
  clear hb3 hbx3 hby3
  go_wp2_with fail
  refine (HS.out _).mono ?_
  rintro e w4 ⟨rfl, hb4⟩
  have HB4 := Lib.hid (keep_trans HB3.out hb4)
  clear hb4
  go_wp2
  go_ret
  exact ⟨rfl, HB4.out⟩
end Go.Proofs.YtmfgffmlnfimcaaDoor
