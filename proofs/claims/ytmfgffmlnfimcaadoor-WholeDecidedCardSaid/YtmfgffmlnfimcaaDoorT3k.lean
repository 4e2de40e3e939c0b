/- The walk of WholeDecided at knapsacks. -/
import Derived.Test.YtmfgffmlnfimcaaDoorT3t
import Derived.Test.YtmfgffmlnfimcaaDoorLo
namespace Go.Proofs.YtmfgffmlnfimcaaDoor
open Go Go.RowKit Go.Shelf Go.Sort Go.Deep

/-- A list that lies in blocks not below B. -/
def IntsO (w : World) (B : Nat) (A : Option Addr) (xs : List Int) : Prop := IntsAt w A xs ∧ ∀ ad, A = some ad → B ≤ ad.block
theorem OwnI.slice {w : World} {base : Nat} {v : Value} {xs : List Int} (h : OwnI w base v xs) {n : Nat} (hn : xs.length = n) : ∃ A c, v = .slice A n c ∧ n ≤ c ∧ IntsO w base A xs := by
  obtain ⟨A, c, e, h1, h2⟩ := h.at
  rw [hn] at e h1
  refine ⟨A, c, e, h1, h2, fun ad ea => ?_⟩
  rcases h.2 with ⟨e2, -⟩ | ⟨g, cap, cur, e2, hb', -⟩
  · rw [e] at e2; cases e2; cases ea
  · rw [e] at e2; cases e2; cases ea; exact hb'
theorem IntsO.keep {w w' : World} {B : Nat} {A : Option Addr} {xs : List Int} (h : IntsO w B A xs) (hb : Below w.heap.size w w') : IntsO w' B A xs := ⟨h.1.keep hb, h.2⟩
theorem IntsO.keepS {S : Nat → Prop} {w w' : World} {B : Nat} {A : Option Addr} {xs : List Int} (h : IntsO w B A xs) (hk : Keep S w w') (hs : ∀ k, B ≤ k → ¬ S k) : IntsO w' B A xs := by
  refine ⟨fun hn => ?_, h.2⟩
  obtain ⟨ad, e, hc⟩ := h.1 hn
  refine ⟨ad, e, fun j hj => hk.cell (hc j hj) (hs _ ?_)⟩
  have := h.2 ad e
  unfold Addr.add
  split <;> exact this
theorem IntsO.mono {w : World} {B B' : Nat} {A : Option Addr} {xs : List Int} (h : IntsO w B A xs) (hb : B' ≤ B) : IntsO w B' A xs := ⟨h.1, fun ad e => Nat.le_trans hb (h.2 ad e)⟩

theorem below_alloc {w W : World} (h : Below w.heap.size w W) (o : Obj) : Below w.heap.size w (W.alloc o) := h.alloc h.size o
theorem IntsO.lt {W : World} {B : Nat} {A : Option Addr} {xs : List Int} (h : IntsO W B A xs) (hx : 0 < xs.length) {ad : Addr} (e : A = some ad) : ad.block < W.heap.size := by
  obtain ⟨ad', e', hc⟩ := h.1 hx
  rw [e] at e'; cases e'
  have := World.block_lt_of_cell? W _ (hc 0 hx)
  have e2 : (ad.add 0).block = ad.block := by unfold Addr.add; split <;> rfl
  rwa [e2] at this
theorem IntsO.set {W : World} {B : Nat} {A : Option Addr} {xs : List Int} (h : IntsO W B A xs) {p : Addr} (hne : 0 < xs.length → ∀ ad, A = some ad → ad.block ≠ p.block) (u : Value) : IntsO (W.setCell p u) B A xs := by
  refine ⟨fun hn => ?_, h.2⟩
  obtain ⟨ad, e, hc⟩ := h.1 hn
  refine ⟨ad, e, fun j hj => ?_⟩
  have e2 : (ad.add j).block = ad.block := by unfold Addr.add; split <;> rfl
  rw [World.cell?_setCell_other _ _ _ _ (fun e3 => hne hn ad e (by rw [← e2, e3]))]
  exact hc j hj
theorem below_row {w W : World} (h : Below w.heap.size w W) {g : Nat} (hg : w.heap.size ≤ g) (cs : Array Value) : Below w.heap.size w (W.setRow g cs) :=
  h.trans ⟨rfl, rfl, rfl, by simp, fun k hk => setRow_other W g k cs (by omega)⟩
theorem IntsO.row {W : World} {B p : Nat} {A : Option Addr} {xs : List Int} (h : IntsO W B A xs) (hp : p < B) (cs : Array Value) : IntsO (W.setRow p cs) B A xs :=
  h.keepS (S := fun k => k = p) ⟨rfl, rfl, rfl, by simp, fun k _ hk => setRow_other W p k cs hk⟩ (fun k hk => by omega)
theorem below3_alloc {w W : World} (h : Below w.heap.size w W) (o : Obj) : Below w.heap.size w (W.alloc o) := h.alloc h.size o
theorem keep3 {w w1 w2 : World} (h : Below w.heap.size w w1) (k : Below w1.heap.size w1 w2) : Below w.heap.size w w2 := keep_trans h k
theorem without_own {arg : Array Value} {W : World} {xs : List Int} {n : Nat} (h : Calls Tryd.prog 12 arg W fun e w' => (∃ v : Value, e = .returned v ∧ OwnI w' W.heap.size v xs) ∧ Below W.heap.size W w') (hn : xs.length = n) :
    Calls Tryd.prog 12 arg W fun e w' => (∃ A c, e = .returned (.slice A n c) ∧ n ≤ c ∧ IntsO w' W.heap.size A xs) ∧ Below W.heap.size W w' := by
  refine h.mono ?_
  rintro e w' ⟨⟨v, rfl, ho⟩, hb⟩
  obtain ⟨A, c, rfl, h1, h2⟩ := ho.slice hn
  exact ⟨⟨A, c, rfl, h1, h2⟩, hb⟩

/-- The smaller problem as it is made. -/
structure JBox (w3 : World) (ws vs : List Int) (m : Nat) (Cap : Int) (p : Nat) (A4 A5 : Option Addr) (c4 c5 : Nat) (wc : World) : Prop where
  box : wc.heap[p]? = some (.cells #[.int .i64 1, .int .i64 (m : Int), .int .i64 Cap, .slice A4 m c4, .slice A5 m c5, .slice none 0 0] 25 (0, 0))
  le4 : m ≤ c4
  le5 : m ≤ c5
  i4 : IntsO wc (w3.heap.size + 2) A4 ws
  i5 : IntsO wc (w3.heap.size + 2) A5 vs
  pb : wc.heap[w3.heap.size]? = some (.cells #[.bool true] 4 (0, 0))
  pl : wc.heap[w3.heap.size + 1]? = some (.cells #[.int .i64 (-1)] 3 (0, 0))
  bl : Below w3.heap.size w3 wc
  ge : w3.heap.size + 2 ≤ p
  n4 : 0 < ws.length → ∀ ad, A4 = some ad → ad.block ≠ p
  n5 : 0 < vs.length → ∀ ad, A5 = some ad → ad.block ≠ p

abbrev boxRow (m : Nat) (Cap : Int) (A4 A5 : Option Addr) (c4 c5 : Nat) : Array Value := #[.int .i64 1, .int .i64 (m : Int), .int .i64 Cap, .slice A4 m c4, .slice A5 m c5, .slice none 0 0]
theorem boxRow_one (m : Nat) (Cap : Int) (A4 A5 : Option Addr) (c4 c5 : Nat) : (boxRow m Cap A4 A5 c4 c5).all (·.oneCell') = true := by
  rw [Array.all_eq_true_iff_forall_mem]
  intro v hv
  simp at hv
  rcases hv with rfl | rfl | rfl | rfl | rfl | rfl <;> rfl
theorem jbox_fin {w3 W0 wX : World} {ws vs : List Int} {m p c4 c5 : Nat} {Cap : Int} {A4 A5 : Option Addr} {old : Array Value} (hW0 : W0 = (w3.alloc (.cells #[.bool true] 4)).alloc (.cells #[.int .i64 (-1)] 3)) (hX : Below W0.heap.size W0 wX) (hp : w3.heap.size + 2 ≤ p) (ho : wX.heap[p]? = some (.cells old 25 (0, 0))) (h4 : m ≤ c4) (h5 : m ≤ c5) (n4 : 0 < ws.length → ∀ ad, A4 = some ad → ad.block ≠ p) (n5 : 0 < vs.length → ∀ ad, A5 = some ad → ad.block ≠ p)
    (i4 : IntsO (wX.setRow p (boxRow m Cap A4 A5 c4 c5)) (w3.heap.size + 2) A4 ws) (i5 : IntsO (wX.setRow p (boxRow m Cap A4 A5 c4 c5)) (w3.heap.size + 2) A5 vs) : JBox w3 ws vs m Cap p A4 A5 c4 c5 (wX.setRow p (boxRow m Cap A4 A5 c4 c5)) := by
  have hs : W0.heap.size = w3.heap.size + 2 := by rw [hW0]; simp
  have hb := below_row hX (g := p) (by omega) (boxRow m Cap A4 A5 c4 c5)
  have h3 : Below w3.heap.size w3 W0 := by rw [hW0]; exact ((Below.refl _ _).alloc (Nat.le_refl _) _).alloc (by simp) _
  refine ⟨setRow_heap _ _ _ _ _ _ ho, h4, h5, i4, i5, heap_keep ?_ hb, heap_keep ?_ hb, keep_trans h3 hb, hp, n4, n5⟩
  · rw [hW0]; exact heap_old' (heap_new w3 _ _ rfl) _
  · rw [hW0]; exact heap_new _ _ _ (by simp)

/-- The cells that the region reads. -/
def Five (p N : Nat) (Cap : Int) (ad1 ad2 : Addr) (c1 c2 : Nat) (W : World) : Prop := W.cell? ⟨p, 0, none⟩ = some (.int .i64 1) ∧ W.cell? ⟨p, 1, none⟩ = some (.int .i64 (N : Int)) ∧ W.cell? ⟨p, 2, none⟩ = some (.int .i64 Cap) ∧ W.cell? ⟨p, 3, none⟩ = some (.slice (some ad1) N c1) ∧ W.cell? ⟨p, 4, none⟩ = some (.slice (some ad2) N c2)

set_option maxRecDepth 200000 in
set_option maxHeartbeats 2000000 in
theorem decided_1 (I : Inst) (hI : WF I) (hL : isLarge I = true) (hk : I.kind = 1) (v : Value) (w : World) (hv : InstAt w v I) (hT : TabW w) (an k m : Nat) (hn : I.n = ((m + 1 : Nat) : Int)) (han : an < 256) (hkk : an % (m + 1) = k) :
    Calls Tryd.prog 3 #[v, .int .u8 (an : Nat)] w fun e w' => e = .returned (.bool true) ∧ Below w.heap.size w w' := by
  obtain ⟨n', hn', hn1, hn64, hws, hvs, hcost, hcap, hok⟩ := hI.knap hk
  obtain rfl : n' = m + 1 := by omega
  have hm13 : m ≤ 13 := by have := large_kinds hL; omega
  have hlim := large_lim hL
  have hkm : k ≤ m := by have := Nat.mod_lt an (show 0 < m + 1 by omega); omega
  have HS := Lib.hid (fun W => stands_any W)
  have HLG := Lib.hid (fun W hv => large_true I hI hL v W hv)
  have HBI := Lib.hid (fun W hv hT => topbest_any I hI hlim v W hv hT)
  have HBK := Lib.hid (fun cap (hc : numOk cap) (W : World) (hT : TabW W) A B c d (hc1 : m ≤ c) (hd : m ≤ d) (hA : IntsAt W A (del I.ws k)) (hB : IntsAt W B (del I.vs k)) => bestK hI hk hm13 hn hkm hc hT hc1 hd hA hB)
  have HD2 := Lib.hid (fun x (hx : Opt I x) d1 d2 (h1 : PK I k m I.cap d1) (h2 : PK I k m (I.cap - gw I k) d2) => decK_two (hx.best1 hk hn) hkm (fun j hj => (hok j hj).1.1) h1.1 h2.1 h1.2.1 (hok k (by omega)).2.1)
  have HD1 := Lib.hid (fun x (hx : Opt I x) d1 (h1 : PK I k m I.cap d1) hno => decK_one (hx.best1 hk hn) hkm (fun j hj => (hok j hj).1.1) h1.1 hno)
  have hok1 := (hok k (by omega)).1
  have hok2 := (hok k (by omega)).2
  have HLW := Lib.hid hws
  have HLV := Lib.hid hvs
  have HV := Lib.hid hv
  have HT := Lib.hid hT
  obtain ⟨N, hN⟩ : ∃ N, m + 1 = N := ⟨_, rfl⟩
  obtain ⟨A1, c1, A2, c2, A3, c3, rfl, hc1', hc2', hA, hB⟩ := hv.kform hI hk hn
  obtain ⟨ad1, e1, hA'⟩ := hA (by omega)
  subst e1
  obtain ⟨ad2, e2, hB'⟩ := hB (by omega)
  subst e2
  clear hA hB
  have hw1 := fun W (h : Below w.heap.size w W) => without_own (without_any ad1 c1 I.ws k W (fun j hj => cell_keep h (hA' j hj)) (by omega) (by omega) (by omega)) (n := m) (del_len hws hkm)
  have hw2 := fun W (h : Below w.heap.size w W) => without_own (without_any ad2 c2 I.vs k W (fun j hj => cell_keep h (hB' j hj)) (by omega) (by omega) (by omega)) (n := m) (del_len hvs hkm)
  rw [hws, hN] at hw1
  rw [hvs, hN] at hw2
  have HW1 := Lib.hid hw1
  have HW2 := Lib.hid hw2
  obtain ⟨Wt, hWt⟩ : ∃ x, I.ws.getD k 0 = x := ⟨_, rfl⟩
  obtain ⟨Vt, hVt⟩ : ∃ x, I.vs.getD k 0 = x := ⟨_, rfl⟩
  obtain ⟨Cap, hCap⟩ : ∃ x, I.cap = x := ⟨_, rfl⟩
  have hwk := hA' k (by omega)
  have hvk := hB' k (by omega)
  rw [hWt] at hwk hok1
  rw [hVt] at hvk hok2
  rw [hCap] at hcap HD2 HD1 HV HLG HBI ⊢
  have HWT := Lib.hid (show gw I k = Wt from hWt)
  have HVT := Lib.hid (show gv I k = Vt from hVt)
  have HWK := Lib.hid hwk
  have HVK := Lib.hid hvk
  unfold numOk at hok1 hok2 hcap
  have hkN : k < N := by omega
  have hNm : (N : Int) - 1 = (m : Int) := by omega
  have hk1 : (an : Int) % (N : Int) = (k : Int) := by rw [← hkk, hN]; simp
  have hk2 : (an : Int).tmod (N : Int) = (k : Int) := by rw [Int.tmod_eq_emod_of_nonneg (by omega)]; exact hk1
  have hN0 : (0 : Int) < (N : Int) := by omega
  have han2 : (an : Int) < 256 := by omega
  have hNle : (N : Int) ≤ 14 := by omega
  rw [hN] at HV HLG HBI hc1' hc2' ⊢
  have HNM := Lib.hid hN
  clear hI hL hk hv hT hlim hn hn' hws hvs hok hcost hA' hB' hw1 hw2 hkk han hN hn1 hn64 hCap hWt hVt hwk hvk
  go_enter Tryd.func3, Tryd.ntmps3
  go_wp2_with fail
  refine (HS.out _).mono ?_
  rintro e w1 ⟨rfl, hb1⟩
  have HB1 := Lib.hid (keep_box hb1)
  obtain ⟨hc1, hf1⟩ := bcell hb1
  have HX1 := Lib.hid (heap_keep (heap_new w (.cells #[.int .i64 1, .int .i64 (N : Int), .int .i64 Cap, .slice (some ad1) N c1, .slice (some ad2) N c2, .slice A3 0 c3] 25 (0, 0)) _ rfl) hb1)
  clear hb1
  go_wp2_with fail
  refine (HLG.out _ (HV.out.keep HB1.out)).mono ?_
  rintro e w2 ⟨rfl, hb2⟩
  have HB2 := Lib.hid (keep_trans HB1.out hb2)
  have hbx2 := heap_keep HX1.out hb2
  have HX2 := Lib.hid hbx2
  have y0 := blk_cell hbx2 0
  have y1 := blk_cell hbx2 1
  have y2 := blk_cell hbx2 2
  have y3 := blk_cell hbx2 3
  have y4 := blk_cell hbx2 4
  have y5 := blk_cell hbx2 5
  clear hb2 hc1 hf1 hbx2 HX1 HB1
  go_wp2_with fail
  refine (HBI.out _ (HV.out.keep HB2.out) (HT.out.keep HB2.out)).mono ?_
  rintro e w3 ⟨x, Ax, cx, rfl, hox, -, -, hb3⟩
  obtain ⟨C, hC⟩ : ∃ C, costOf I x = C := ⟨_, rfl⟩
  rw [hC]
  have HC := Lib.hid hC
  have HOX := Lib.hid hox
  have hbx3 := heap_keep HX2.out hb3
  have HX3 := Lib.hid hbx3
  have HB3 := Lib.hid (keep_trans HB2.out hb3)
  have hxl := heap_lt hbx3
  clear y0 y1 y2 y3 y4 y5 hC hox
  have y0 := blk_cell hbx3 0
  have y1 := blk_cell hbx3 1
  have y2 := blk_cell hbx3 2
  have y3 := blk_cell hbx3 3
  have y4 := blk_cell hbx3 4
  have y5 := blk_cell hbx3 5
  clear hb3 hbx3 HX2 HB2
  go_wp2
  have hB0 : Below w.heap.size w ((w3.alloc (.cells #[.bool true] 4)).alloc (.cells #[.int .i64 (-1)] 3)) := (HB3.out.alloc HB3.out.size _).alloc (by have := HB3.out.size; simp; omega) _
  have HW1Q := Lib.hid (show ∀ W : World, Below w.heap.size w W → _ from fun W h => HW1.out W h)
  have HW2Q := Lib.hid (show ∀ W : World, Below w.heap.size w W → _ from fun W h => HW2.out W h)
  have hwm : IntKind.i64.wrap (m : Int) = (m : Int) := by rw [IntKind.wrap_i64]; omega
  have hwn : IntKind.i64.wrap ((N : Int) - 1) = (m : Int) := by rw [hNm]; exact hwm
  have HWN := Lib.hid (And.intro hwm hwn)
  have HS0 := Lib.hid (show ∀ W : World, Below w3.heap.size w3 W → Five w.heap.size N Cap ad1 ad2 c1 c2 W from fun W h => by
    have hq := heap_keep HX3.out h
    exact ⟨blk_cell hq 0, blk_cell hq 1, blk_cell hq 2, blk_cell hq 3, blk_cell hq 4⟩)
  have HBD := Lib.hid (show Below w.heap.size w (((w3.alloc (.cells #[.bool true] 4)).alloc (.cells #[.int .i64 (-1)] 3))).drew from hB0.drew)
  have HB3D := Lib.hid (show Below w3.heap.size w3 (((w3.alloc (.cells #[.bool true] 4)).alloc (.cells #[.int .i64 (-1)] 3))).drew from (below_alloc (below_alloc (Below.refl _ _) _) _).drew)
  have HBE := Lib.hid (show Below w.heap.size w ((((w3.alloc (.cells #[.bool true] 4)).alloc (.cells #[.int .i64 (-1)] 3))).drew.alloc (.cells #[.int .i64 0, .int .i64 0, .int .i64 0, .slice none 0 0, .slice none 0 0, .slice none 0 0] 25 (0, 0))) from below_alloc hB0.drew _)
  have HB3E := Lib.hid (show Below w3.heap.size w3 ((((w3.alloc (.cells #[.bool true] 4)).alloc (.cells #[.int .i64 (-1)] 3))).drew.alloc (.cells #[.int .i64 0, .int .i64 0, .int .i64 0, .slice none 0 0, .slice none 0 0, .slice none 0 0] 25 (0, 0))) from below_alloc (below_alloc (below_alloc (Below.refl _ _) _) _).drew _)
  have HSZ := Lib.hid (show ∀ W : World, Below ((w3.alloc (.cells #[.bool true] 4)).alloc (.cells #[.int .i64 (-1)] 3)).heap.size ((w3.alloc (.cells #[.bool true] 4)).alloc (.cells #[.int .i64 (-1)] 3)) W → w3.heap.size + 2 ≤ W.heap.size from fun W h => by have := h.size; simp at this; omega)
  go_cut [11] (fun v11 wc => ∃ (p : Nat) (A4 A5 : Option Addr) (c4 c5 : Nat), v11 = .pointer (some ⟨p, 0, none⟩) ∧ Hid (JBox w3 (del I.ws k) (del I.vs k) m Cap p A4 A5 c4 c5 wc))
  case first =>
    refine wp_region_U (S := Five w.heap.size N Cap ad1 ad2 c1 c2) 17 (by kernel_rfl) ?_
    refine wpU_pure (i := 0) (v := ?_) rfl (by kernel_rfl) (by kernel_rfl) (by kernel_rfl) (fun _ _ _ h => h) (by kernel_rfl) (Or.inl ⟨by rfl, ?_⟩) (HS0.out _ HB3D.out) ?_
    rotate_left
    · intro W _
      have hwm := HWN.out.1
      have hwn := HWN.out.2
      go_simp
      try with_reducible rfl
    refine wpU_take (i := 1) (v := ?_) rfl (by kernel_rfl) (by kernel_rfl) (by kernel_rfl) (fun _ _ _ h => h) (by kernel_rfl) (by kernel_rfl) (Or.inl ⟨by rfl, ?_⟩) (HS0.out _ HB3D.out) ?_
    rotate_left
    · intro W hW
      obtain ⟨q0, q1, q2, q3, q4⟩ := hW
      go_simp
      try with_reducible rfl
    refine wpU_pure (i := 2) (v := ?_) rfl (by kernel_rfl) (by kernel_rfl) (by kernel_rfl) (fun _ _ _ h => h) (by kernel_rfl) (Or.inl ⟨by rfl, ?_⟩) (HS0.out _ HB3D.out) ?_
    rotate_left
    · intro W _
      have hwm := HWN.out.1
      have hwn := HWN.out.2
      go_simp
      try with_reducible rfl
    refine wpU_take (i := 3) (v := ?_) rfl (by kernel_rfl) (by kernel_rfl) (by kernel_rfl) (fun _ _ _ h => h) (by kernel_rfl) (by kernel_rfl) (Or.inl ⟨by rfl, ?_⟩) (HS0.out _ HB3D.out) ?_
    rotate_left
    · intro W hW
      obtain ⟨q0, q1, q2, q3, q4⟩ := hW
      go_simp
      try with_reducible rfl
    refine wpU_pure (i := 4) (v := ?_) rfl (by kernel_rfl) (by kernel_rfl) (by kernel_rfl) (fun _ _ _ h => h) (by kernel_rfl) (Or.inl ⟨by rfl, ?_⟩) (HS0.out _ HB3D.out) ?_
    rotate_left
    · intro W _
      have hwm := HWN.out.1
      have hwn := HWN.out.2
      go_simp
      try with_reducible rfl
    refine wpU_pure (i := 5) (v := ?_) rfl (by kernel_rfl) (by kernel_rfl) (by kernel_rfl) (fun _ _ _ h => h) (by kernel_rfl) (Or.inl ⟨by rfl, ?_⟩) (HS0.out _ HB3D.out) ?_
    rotate_left
    · intro W _
      have hwm := HWN.out.1
      have hwn := HWN.out.2
      go_simp
      try with_reducible rfl
    refine wpU_take (i := 6) (v := ?_) rfl (by kernel_rfl) (by kernel_rfl) (by kernel_rfl) (fun _ _ _ h => h) (by kernel_rfl) (by kernel_rfl) (Or.inl ⟨by rfl, ?_⟩) (HS0.out _ HB3D.out) ?_
    rotate_left
    · intro W hW
      obtain ⟨q0, q1, q2, q3, q4⟩ := hW
      go_simp
      try with_reducible rfl
    refine wpU_pure (i := 7) (v := ?_) rfl (by kernel_rfl) (by kernel_rfl) (by kernel_rfl) (fun _ _ _ h => h) (by kernel_rfl) (Or.inl ⟨by rfl, ?_⟩) (HS0.out _ HB3D.out) ?_
    rotate_left
    · intro W _
      have hwm := HWN.out.1
      have hwn := HWN.out.2
      go_simp
      try with_reducible rfl
    refine wpU_take (i := 8) (v := ?_) rfl (by kernel_rfl) (by kernel_rfl) (by kernel_rfl) (fun _ _ _ h => h) (by kernel_rfl) (by kernel_rfl) (Or.inl ⟨by rfl, ?_⟩) (HS0.out _ HB3D.out) ?_
    rotate_left
    · intro W hW
      obtain ⟨q0, q1, q2, q3, q4⟩ := hW
      go_simp
      try with_reducible rfl
    refine wpU_pure (i := 9) (v := ?_) rfl (by kernel_rfl) (by kernel_rfl) (by kernel_rfl) (fun _ _ _ h => h) (by kernel_rfl) (Or.inl ⟨by rfl, ?_⟩) (HS0.out _ HB3D.out) ?_
    rotate_left
    · intro W _
      have hwm := HWN.out.1
      have hwn := HWN.out.2
      go_simp
      try with_reducible rfl
    refine wpU_pure (i := 11) (v := ?_) rfl (by kernel_rfl) (by kernel_rfl) (by kernel_rfl) (fun _ _ _ h => h) (by kernel_rfl) (Or.inl ⟨by rfl, ?_⟩) (HS0.out _ HB3D.out) ?_
    rotate_left
    · intro W _
      have hwm := HWN.out.1
      have hwn := HWN.out.2
      go_simp
      try with_reducible rfl
    refine wpU_take (i := 12) (v := ?_) rfl (by kernel_rfl) (by kernel_rfl) (by kernel_rfl) (fun _ _ _ h => h) (by kernel_rfl) (by kernel_rfl) (Or.inl ⟨by rfl, ?_⟩) (HS0.out _ HB3D.out) ?_
    rotate_left
    · intro W hW
      obtain ⟨q0, q1, q2, q3, q4⟩ := hW
      go_simp
      try with_reducible rfl
    refine wpU_pure (i := 13) (v := ?_) rfl (by kernel_rfl) (by kernel_rfl) (by kernel_rfl) (fun _ _ _ h => h) (by kernel_rfl) (Or.inl ⟨by rfl, ?_⟩) (HS0.out _ HB3D.out) ?_
    rotate_left
    · intro W _
      have hwm := HWN.out.1
      have hwn := HWN.out.2
      go_simp
      try with_reducible rfl
    refine wpU_two (i := 10) (j := 16) (by kernel_rfl) ?_ ?_
    · skip
      refine wpU_step (by rfl) (fun K hK => ?_)
      go_simp
      go_at_call 12
      refine (HW1Q.out _ HBD.out).mono ?_
      rintro e w4 ⟨⟨A4, c4, rfl, hc4, hi4⟩, hb4⟩
      refine hK _ _ (fun _ => HS0.out _ (keep3 HB3D.out hb4)) ?_
      clear hK K
      refine wpU_two (i := 14) (j := 16) (by kernel_rfl) ?_ ?_
      · skip
        refine wpU_step (by rfl) (fun K hK => ?_)
        go_simp
        go_at_call 12
        refine (HW2Q.out _ (keep_trans HBD.out hb4)).mono ?_
        rintro e w5 ⟨⟨A5, c5, rfl, hc5, hi5⟩, hb5⟩
        refine hK _ _ (fun _ => HS0.out _ (keep3 (keep3 HB3D.out hb4) hb5)) ?_
        clear hK K
        refine wpU_pure (i := 15) (v := ?_) rfl (by kernel_rfl) (by kernel_rfl) (by kernel_rfl) (fun _ _ _ h => h) (by kernel_rfl) (Or.inl ⟨by rfl, ?_⟩) (HS0.out _ (keep3 (keep3 HB3D.out hb4) hb5)) ?_
        rotate_left
        · intro W _
          have hwm := HWN.out.1
          have hwn := HWN.out.2
          go_simp
          try with_reducible rfl
        refine wpU_one (i := 16) (by kernel_rfl) ?_
        refine wpU_step (by rfl) (fun K hK => ?_)
        go_simp
        refine hK _ _ (fun _ => HS0.out _ (below3_alloc (keep3 (keep3 HB3D.out hb4) hb5) _)) ?_
        clear hK K
        refine wpU_one (i := 17) (by kernel_rfl) ?_
        refine wpU_step (by rfl) (fun K hK => ?_)
        rw [if_pos (by rfl)]
        refine wp_store_row 25 _ _ rfl w5.heap.size (boxRow m Cap A4 A5 c4 c5) (by rfl) (by rfl) 25 _ (heap_new w5 _ _ rfl) (by kernel_rfl) (by rfl) (boxRow_one m Cap A4 A5 c4 c5) ?_
        refine hK _ _ (fun h => absurd (show (true : Bool) = false from h) (by decide)) ?_
        clear hK K
        refine wpU_done (by kernel_rfl) (NoPanic.normal ?_) _
        go_wp2
        go_meet
        exact ⟨w5.heap.size, A4, A5, c4, c5, rfl, Lib.hid (jbox_fin rfl (below_alloc (keep_trans (keep_trans ((Below.refl _ ((w3.alloc (.cells #[.bool true] 4)).alloc (.cells #[.int .i64 (-1)] 3))).drew) hb4) hb5) _) (HSZ.out w5 (keep_trans ((Below.refl _ ((w3.alloc (.cells #[.bool true] 4)).alloc (.cells #[.int .i64 (-1)] 3))).drew) (keep_trans hb4 hb5))) (heap_new w5 _ _ rfl) hc4 hc5 (fun h ad e => Nat.ne_of_lt ((hi4.keep hb5).lt h e)) (fun h ad e => Nat.ne_of_lt (hi5.lt h e)) ((hi4.keep (keep_trans hb5 (below_row (below_alloc (Below.refl _ _) _) (Nat.le_refl _) _))).mono (HSZ.out _ ((Below.refl _ ((w3.alloc (.cells #[.bool true] 4)).alloc (.cells #[.int .i64 (-1)] 3))).drew))) ((hi5.keep (below_row (below_alloc (Below.refl _ _) _) (Nat.le_refl _) _)).mono (HSZ.out _ (keep_trans ((Below.refl _ ((w3.alloc (.cells #[.bool true] 4)).alloc (.cells #[.int .i64 (-1)] 3))).drew) hb4))))⟩
      · skip
        refine wpU_step (by rfl) (fun K hK => ?_)
        go_simp
        refine hK _ _ (fun _ => HS0.out _ (below3_alloc (keep3 HB3D.out hb4) _)) ?_
        clear hK K
        refine wpU_one (i := 14) (by kernel_rfl) ?_
        refine wpU_step (by rfl) (fun K hK => ?_)
        go_simp
        go_at_call 12
        refine (HW2Q.out _ (below_alloc (keep_trans HBD.out hb4) _)).mono ?_
        rintro e w5 ⟨⟨A5, c5, rfl, hc5, hi5⟩, hb5⟩
        refine hK _ _ (fun _ => HS0.out _ (keep3 (below3_alloc (keep3 HB3D.out hb4) _) hb5)) ?_
        clear hK K
        refine wpU_pure (i := 15) (v := ?_) rfl (by kernel_rfl) (by kernel_rfl) (by kernel_rfl) (fun _ _ _ h => h) (by kernel_rfl) (Or.inl ⟨by rfl, ?_⟩) (HS0.out _ (keep3 (below3_alloc (keep3 HB3D.out hb4) _) hb5)) ?_
        rotate_left
        · intro W _
          have hwm := HWN.out.1
          have hwn := HWN.out.2
          go_simp
          try with_reducible rfl
        refine wpU_one (i := 17) (by kernel_rfl) ?_
        refine wpU_step (by rfl) (fun K hK => ?_)
        rw [if_pos (by rfl)]
        refine wp_store_row 25 _ _ rfl w4.heap.size (boxRow m Cap A4 A5 c4 c5) (by rfl) (by rfl) 25 _ (heap_keep (heap_new w4 _ _ rfl) hb5) (by kernel_rfl) (by rfl) (boxRow_one m Cap A4 A5 c4 c5) ?_
        refine hK _ _ (fun h => absurd (show (true : Bool) = false from h) (by decide)) ?_
        clear hK K
        refine wpU_done (by kernel_rfl) (NoPanic.normal ?_) _
        go_wp2
        go_meet
        exact ⟨w4.heap.size, A4, A5, c4, c5, rfl, Lib.hid (jbox_fin rfl (keep_trans (below_alloc (keep_trans ((Below.refl _ ((w3.alloc (.cells #[.bool true] 4)).alloc (.cells #[.int .i64 (-1)] 3))).drew) hb4) _) hb5) (HSZ.out w4 (keep_trans ((Below.refl _ ((w3.alloc (.cells #[.bool true] 4)).alloc (.cells #[.int .i64 (-1)] 3))).drew) hb4)) (heap_keep (heap_new w4 _ _ rfl) hb5) hc4 hc5 (fun h ad e => Nat.ne_of_lt (hi4.lt h e)) (fun _ ad e => by have := hi5.2 ad e; simp at this; omega) ((hi4.keep (below_row (keep_box hb5) (Nat.le_refl _) _)).mono (HSZ.out _ ((Below.refl _ ((w3.alloc (.cells #[.bool true] 4)).alloc (.cells #[.int .i64 (-1)] 3))).drew))) ((hi5.row (by simp) _).mono (HSZ.out _ (below_alloc (keep_trans ((Below.refl _ ((w3.alloc (.cells #[.bool true] 4)).alloc (.cells #[.int .i64 (-1)] 3))).drew) hb4) _))))⟩
    · skip
      refine wpU_step (by rfl) (fun K hK => ?_)
      go_simp
      refine hK _ _ (fun _ => HS0.out _ (below3_alloc HB3D.out _)) ?_
      clear hK K
      refine wpU_one (i := 10) (by kernel_rfl) ?_
      refine wpU_step (by rfl) (fun K hK => ?_)
      go_simp
      go_at_call 12
      refine (HW1Q.out _ HBE.out).mono ?_
      rintro e w4 ⟨⟨A4, c4, rfl, hc4, hi4⟩, hb4⟩
      refine hK _ _ (fun _ => HS0.out _ (keep3 HB3E.out hb4)) ?_
      clear hK K
      refine wpU_one (i := 14) (by kernel_rfl) ?_
      refine wpU_step (by rfl) (fun K hK => ?_)
      go_simp
      go_at_call 12
      refine (HW2Q.out _ (keep_trans HBE.out hb4)).mono ?_
      rintro e w5 ⟨⟨A5, c5, rfl, hc5, hi5⟩, hb5⟩
      refine hK _ _ (fun _ => HS0.out _ (keep3 (keep3 HB3E.out hb4) hb5)) ?_
      clear hK K
      refine wpU_pure (i := 15) (v := ?_) rfl (by kernel_rfl) (by kernel_rfl) (by kernel_rfl) (fun _ _ _ h => h) (by kernel_rfl) (Or.inl ⟨by rfl, ?_⟩) (HS0.out _ (keep3 (keep3 HB3E.out hb4) hb5)) ?_
      rotate_left
      · intro W _
        have hwm := HWN.out.1
        have hwn := HWN.out.2
        go_simp
        try with_reducible rfl
      refine wpU_one (i := 17) (by kernel_rfl) ?_
      refine wpU_step (by rfl) (fun K hK => ?_)
      rw [if_pos (by rfl)]
      refine wp_store_row 25 _ _ rfl (w3.heap.size + 1 + 1) (boxRow m Cap A4 A5 c4 c5) (by rfl) (by rfl) 25 _ (heap_keep (heap_keep (heap_new _ _ _ (by simp)) hb4) hb5) (by kernel_rfl) (by rfl) (boxRow_one m Cap A4 A5 c4 c5) ?_
      refine hK _ _ (fun h => absurd (show (true : Bool) = false from h) (by decide)) ?_
      clear hK K
      refine wpU_done (by kernel_rfl) (NoPanic.normal ?_) _
      go_wp2
      go_meet
      exact ⟨(w3.heap.size + 1 + 1), A4, A5, c4, c5, rfl, Lib.hid (jbox_fin rfl (keep_trans (keep_trans (below_alloc (Below.refl _ ((w3.alloc (.cells #[.bool true] 4)).alloc (.cells #[.int .i64 (-1)] 3))).drew (.cells #[.int .i64 0, .int .i64 0, .int .i64 0, .slice none 0 0, .slice none 0 0, .slice none 0 0] 25 (0, 0))) hb4) hb5) (Nat.le_refl _) (heap_keep (heap_keep (heap_new _ _ _ (by simp)) hb4) hb5) hc4 hc5 (fun _ ad e => by have := hi4.2 ad e; simp at this; omega) (fun _ ad e => by have := hi5.2 ad e; have := hb4.size; simp at this; omega) (((hi4.keep hb5).row (by simp) _).mono (by simp)) ((hi5.row (by have := hb4.size; simp at this; omega) _).mono (by have := hb4.size; simp at this; omega)))⟩
  case rest =>
    obtain ⟨p, A4, A5, c4, c5, rfl, HJ⟩ := hcut
    have hbj := HJ.out.box
    have j0 := blk_cell hbj 0
    have j1 := blk_cell hbj 1
    have j2 := blk_cell hbj 2
    have j3 := blk_cell hbj 3
    have j4 := blk_cell hbj 4
    have j5 := blk_cell hbj 5
    have hjl := heap_lt hbj
    have hB9 := keep_trans HB3.out HJ.out.bl
    have hbx := heap_keep HX3.out HJ.out.bl
    have y4 := blk_cell hbx 4
    have hvk := cell_keep hB9 HVK.out
    have hxc := heap_lt hbx
    have hpp := HJ.out.ge
    have hvl := World.block_lt_of_cell? w _ HVK.out
    have hwl := World.block_lt_of_cell? w _ HWK.out
    have hs3 := HB3.out.size
    have HN1 := Lib.hid (show ¬ (p = w3.heap.size ∨ p = w3.heap.size + 1) by omega)
    have HN2 := Lib.hid (show ¬ (w.heap.size = w3.heap.size ∨ w.heap.size = w3.heap.size + 1) by omega)
    have HN3 := Lib.hid (show ¬ ((ad2.add k).block = w3.heap.size ∨ (ad2.add k).block = w3.heap.size + 1) by omega)
    have HN4 := Lib.hid (show ¬ ((ad1.add k).block = w3.heap.size ∨ (ad1.add k).block = w3.heap.size + 1) by omega)
    have HDQ := Lib.hid (show ∀ W : World, W.heap = wc.heap → W.os = wc.os → W.tape = wc.tape → W.output = wc.output → _ from fun W a b c d =>
      have hq : Below wc.heap.size wc W := below_eqhx (Below.refl _ _) a b c d
      decide_any 1 (m : Int) Cap A4 A5 none m c4 m c5 0 0 Vt (-1) W w3.heap.size (w3.heap.size + 1) (heap_keep HJ.out.pb hq) (heap_keep HJ.out.pl hq) (PK I k m Cap) (fun d hd => hd.2) hok2 (by omega) (HBK.out Cap hcap W (HT.out.keep (keep_trans hB9 hq)) A4 A5 c4 c5 HJ.out.le4 HJ.out.le5 (HJ.out.i4.1.keep hq) (HJ.out.i5.1.keep hq)))
    have HKS := Lib.hid (show ∀ (W w5 : World), Keep (fun k => k = w3.heap.size ∨ k = w3.heap.size + 1) W w5 → ∀ (q : Addr) (u : Value), ¬ (q.block = w3.heap.size ∨ q.block = w3.heap.size + 1) → W.cell? q = some u → w5.cell? q = some u from fun W w5 hk q u hp h => hk.cell h hp)
    have HBX := Lib.hid hbx
    have HB9 := Lib.hid hB9
    have HPP := Lib.hid hpp
    clear hbj hbx hB9 hpp hvl hwl hs3
    go_upto_region 15 with (fail)
    go_region_held3 (fun w' => w'.cell? ⟨p, 0, none⟩ = some (.int .i64 1) ∧ w'.cell? ⟨p, 1, none⟩ = some (.int .i64 (m : Int)) ∧ w'.cell? ⟨p, 2, none⟩ = some (.int .i64 Cap) ∧ w'.cell? ⟨p, 3, none⟩ = some (.slice A4 m c4) ∧ w'.cell? ⟨p, 4, none⟩ = some (.slice A5 m c5) ∧ w'.cell? ⟨p, 5, none⟩ = some (.slice none 0 0) ∧ w'.cell? ⟨w.heap.size, 4, none⟩ = some (.slice (some ad2) N c2) ∧ w'.cell? (ad2.add k) = some (.int .i64 Vt))
      (first | (go_keep; done) | (go_split_ands; refine ⟨?_, ?_, ?_, ?_, ?_, ?_, ?_, ?_⟩ <;> (first | exact HKS.out _ _ hk5 _ _ HN1.out (by assumption) | exact HKS.out _ _ hk5 _ _ HN2.out (by assumption) | exact HKS.out _ _ hk5 _ _ HN3.out (by assumption) | fail)) | fail)
      (first | (go_at_call 11; (with_reducible refine (HDQ.out _ ?_ ?_ ?_ ?_).mono ?_); rfl; rfl; rfl; rfl; (rintro e w5 ⟨rfl, d, hd, hpb5, hpl5, hk5⟩)) | fail)
    have hkW : Keep (fun k => k = w3.heap.size ∨ k = w3.heap.size + 1) wc w5 := ⟨hk5.os, hk5.tape, hk5.output, hk5.size, hk5.block⟩
    have hb5 : Below w3.heap.size wc w5 := hkW.below (by have := HJ.out.bl.size; omega) (fun k hk => by omega)
    have HKW := Lib.hid hkW
    have HB5 := Lib.hid (HJ.out.bl.trans hb5)
    have HPD := Lib.hid hd
    have hdr := hd.2
    unfold inB at hdr
    have HBX5 := Lib.hid (heap_keep HX3.out HB5.out)
    have HPB5 := Lib.hid hpb5
    have hle : leastOf (-1) (d + Vt) = d + Vt := by unfold leastOf; rw [if_pos (.inl (by decide))]
    rw [hle] at hpl5
    have HLE := Lib.hid hle
    have HPL5 := Lib.hid hpl5
    have HJ5 := Lib.hid (HKW.out.heap HJ.out.box HN1.out)
    clear hd hk5 hkW hb5 hpb5 hpl5 hle j0 j1 j2 j3 j4 j5 y4 hvk HDQ
    have hbx := HBX5.out
    have y2 := blk_cell hbx 2
    have y3 := blk_cell hbx 3
    have hwk := cell_keep (HB3.out.trans (HB5.out.mono HB3.out.size)) HWK.out
    have hxc5 := heap_lt hbx
    clear hbx
    have hin := Lib.hid (And.intro hcap (And.intro hok1 hok2))
    by_cases hw : Wt ≤ Cap
    · have HDR := Lib.hid hdr
      have hws : IntKind.i64.wrap (Cap - Wt) = Cap - Wt := by rw [IntKind.wrap_i64]; omega
      have hjl5 := heap_lt HJ5.out
      have jf := blk_free HJ5.out 2
      have jc := blk_cell HJ5.out 2
      clear hdr
      go_upto_region 16 with (fail)
      go_big_region
      go_upto_region 17 with (fail)
      go_big_region
      go_wp2_with fail
      obtain ⟨Ws, hWs⟩ : ∃ W : World, w5.setCell ⟨p, 2, none⟩ (.int .i64 (Cap - Wt)) = W := ⟨_, rfl⟩
      have hdr := HDR.out
      have hcw : numOk (Cap - Wt) := by have := hin.out; unfold numOk; omega
      have hbs : Below w.heap.size w Ws := by rw [← hWs]; exact (keep_trans HB3.out HB5.out).setCell (p := ⟨p, 2, none⟩) (by have := HPP.out; have := HB3.out.size; show w.heap.size ≤ p; omega) _
      have h4 : IntsO Ws (w3.heap.size + 2) A4 (del I.ws k) := by rw [← hWs]; exact (HJ.out.i4.keepS HKW.out (fun k hk => by omega)).set HJ.out.n4 _
      have h5 : IntsO Ws (w3.heap.size + 2) A5 (del I.vs k) := by rw [← hWs]; exact (HJ.out.i5.keepS HKW.out (fun k hk => by omega)).set HJ.out.n5 _
      have hpbs : Ws.heap[w3.heap.size]? = some (.cells #[.bool true] 4 (0, 0)) := by rw [← hWs]; exact heap_far HPB5.out (p := ⟨p, 2, none⟩) (by have := HPP.out; show w3.heap.size ≠ p; omega) _
      have hpls : Ws.heap[w3.heap.size + 1]? = some (.cells #[.int .i64 (d + Vt)] 3 (0, 0)) := by rw [← hWs]; exact heap_far HPL5.out (p := ⟨p, 2, none⟩) (by have := HPP.out; show w3.heap.size + 1 ≠ p; omega) _
      have hrl : -1 ≤ d + Vt ∧ d + Vt ≤ 2199023255552 := by have := hin.out; omega
      have HDQ2 := Lib.hid (show ∀ W : World, W.heap = Ws.heap → W.os = Ws.os → W.tape = Ws.tape → W.output = Ws.output → _ from fun W a b c d' =>
        have hq : Below Ws.heap.size Ws W := below_eqhx (Below.refl _ _) a b c d'
        decide_any 1 (m : Int) (Cap - Wt) A4 A5 none m c4 m c5 0 0 0 (d + Vt) W w3.heap.size (w3.heap.size + 1) (heap_keep hpbs hq) (heap_keep hpls hq) (PK I k m (Cap - Wt)) (fun d hd => hd.2) (by omega) hrl (HBK.out (Cap - Wt) hcw W (HT.out.keep (keep_trans hbs hq)) A4 A5 c4 c5 HJ.out.le4 HJ.out.le5 (h4.1.keep hq) (h5.1.keep hq)))
      have HBS := Lib.hid (show ∀ W : World, W.heap = Ws.heap → W.os = Ws.os → W.tape = Ws.tape → W.output = Ws.output → Below w.heap.size w W from fun W a b c d => below_eqhx hbs a b c d)
      rw [hWs]
      refine (HDQ2.out Ws.drew.drew rfl rfl rfl rfl).mono ?_
      rintro e w6 ⟨rfl, d2, hd2, hpb6, hpl6, hk6⟩
      have hfin := HD2.out x HOX.out d d2 HPD.out (by rw [HWT.out]; exact hd2)
      rw [HC.out, HVT.out, HLE.out] at hfin
      rw [← hfin] at hpl6
      have z0 := blk_cell hpb6 0
      have z1 := blk_cell hpl6 0
      have hzl0 := heap_lt hpb6
      have hzl1 := heap_lt hpl6
      have HBL := Lib.hid ((HBS.out Ws.drew.drew rfl rfl rfl rfl).trans (hk6.below (by have := hbs.size; exact this) (fun k hk => by have := HB3.out.size; omega)))
      clear hWs hdr hcw hbs h4 h5 hpbs hpls hrl HDQ2 HBS hd2 hpb6 hpl6 hk6 hfin
      go_wp2
      all_goals go_ret
      exact ⟨rfl, HBL.out⟩
    · have hfin := HD1.out x HOX.out d HPD.out (by rw [HWT.out]; omega)
      rw [HC.out, HVT.out, HLE.out] at hfin
      subst hfin
      have z0 := blk_cell HPB5.out 0
      have z1 := blk_cell HPL5.out 0
      have hzl0 := heap_lt HPB5.out
      have hzl1 := heap_lt HPL5.out
      go_upto_region 16 with (fail)
      go_big_region
      all_goals go_wp2
      all_goals go_ret
      exact ⟨rfl, (keep_trans HB3.out HB5.out).drew⟩
end Go.Proofs.YtmfgffmlnfimcaaDoor
