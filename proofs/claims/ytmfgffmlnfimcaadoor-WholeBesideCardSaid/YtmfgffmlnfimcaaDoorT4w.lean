/- The walk of WholeBeside at knapsacks. -/
import Derived.Test.YtmfgffmlnfimcaaDoorT4k
namespace Go.Proofs.YtmfgffmlnfimcaaDoor
open Go Go.RowKit Go.Shelf Go.Sort Go.Deep

section
variable {P : Program} {ops : Array Oper} {Q : Exit → Act → World → Prop} {md : Region.Mode}
/-- A load may be taken first, where number t waits for it through others. -/
theorem wpU_first_via {S : World → Prop} {t i : Nat} {oi : Oper} {v : Value} (B : List Nat) (hi : ops[i]? = some oi) (hsel : ∀ (j : Nat) (o : Oper) cs b, ops[j]? = some o → o.op ≠ .select cs b)
    (hQ : ∀ c a w, Q (.panic c) (a.put oi.dst v) w → Q (.panic c) a w) (hB : ∀ b ∈ B, ∀ ob, ops[b]? = some ob → ∃ e ∈ ob.after, Region.binds md e = true ∧ (e.on = i ∨ e.on ∈ B)) (htB : t ∈ B) :
    ∀ (fuel : Nat) (listed : Array Bool) (a : Act) (w : World),
      (∀ j oj, ops[j]? = some oj → j ≠ i → listed.getD j true = false → (∀ e ∈ oj.after, Region.binds md e = true → e.on ≠ i) → oi.apart ops oj = true) →
      i ∈ Region.ready md ops listed → (∀ b ∈ B, listed.getD b true = false ∧ b ≠ i) → YieldsIf P ops S oi v a → S w →
      wpU P md ops Q S t fuel (listed.setIfInBounds i true) (a.put oi.dst v) w → wpU P md ops Q S t (fuel + 1) listed a w := by
  intro fuel
  induction fuel with
  | zero =>
    intro listed a w _ hr _ hy hS H
    refine ⟨fun h => (by rw [h] at hr; cases hr), fun j hj => ?_⟩
    by_cases hji : j = i
    · subst hji; exact hy.wpOp hi hS ⟨fun _ => hS, H⟩
    · have := ready_mono hj hji
      rw [H.1] at this
      cases this
  | succ fuel ih =>
    intro listed a w hfree hr ht hy hS H
    refine ⟨fun h => (by rw [h] at hr; cases hr), fun j hj => ?_⟩
    by_cases hji : j = i
    · subst hji; exact hy.wpOp hi hS ⟨fun _ => hS, H⟩
    · have h1 := H.2 j (ready_mono hj hji)
      obtain ⟨hjun, oj, hoj, hall⟩ := mem_ready.1 hj
      have hi0 := (mem_ready.1 hr).1
      have hun : ∀ e ∈ oj.after, Region.binds md e = true → listed.getD e.on true = false → False := fun e he hb h3 => by
        have h1 := hall e he hb
        rcases Nat.lt_or_ge e.on listed.size with h' | h'
        · simp [h'] at h3 h1; rw [h3] at h1; cases h1
        · simp [Array.getElem?_eq_none h'] at h1
      have hnot : ∀ e ∈ oj.after, Region.binds md e = true → e.on ≠ i := fun e he hb heq => hun e he hb (by rw [heq]; exact hi0)
      have hjB : j ∉ B := fun hm => by
        obtain ⟨e, he, hb, hon⟩ := hB j hm oj hoj
        rcases hon with hon | hon
        · exact hnot e he hb hon
        · exact hun e he hb (ht _ hon).1
      have hjt : j ≠ t := fun e => hjB (e ▸ htB)
      have hne : t ≠ i := (ht t htB).2
      have h2 := wpOp_putIf hoj (hfree j oj hoj hji hjun hnot) (fun cs b => hsel i oi cs b hi) (fun cs b => hsel j oj cs b hoj) hQ hy h1
      have hfree' : ∀ k ok, ops[k]? = some ok → k ≠ i → (listed.setIfInBounds j true).getD k true = false →
          (∀ e ∈ ok.after, Region.binds md e = true → e.on ≠ i) → oi.apart ops ok = true := fun k ok hk hki hun hno => by
        refine hfree k ok hk hki ?_ hno
        by_cases hjk : j = k
        · subst hjk; exact hjun
        · rw [getD_set_ne true hjk] at hun; exact hun
      have ht' : ∀ b ∈ B, (listed.setIfInBounds j true).getD b true = false ∧ b ≠ i := fun b hb => by
        have hjb : j ≠ b := fun e => hjB (e ▸ hb)
        rw [getD_set_ne true hjb]; exact ht b hb
      have ht2 : ((listed.setIfInBounds i true).setIfInBounds j true).getD t true = false := by rw [getD_set_ne true hjt, getD_set_ne true (Ne.symm hne)]; exact (ht t htB).1
      refine wpOp_mono (fun a' w' h3 => ⟨fun _ => h3.2.1 ht2, ih (listed.setIfInBounds j true) a' w' hfree' (ready_mono hr (Ne.symm hji)) ht' h3.1 (h3.2.1 ht2) ?_⟩) h2
      rw [Array.setIfInBounds_comm _ _ hji]
      exact h3.2.2
theorem wpU_take_via {S : World → Prop} {t i : Nat} {oi : Oper} {v : Value} {fuel : Nat} {listed : Array Bool} {a : Act} {w : World} (B : List Nat) (hi : ops[i]? = some oi)
    (hs : Region.noSelect ops = true) (hf : Region.free md ops listed i = true) (hr : (Region.ready md ops listed).contains i = true)
    (hQ : ∀ c a w, Q (.panic c) (a.put oi.dst v) w → Q (.panic c) a w) (hB : (B.all fun b => Region.waitsFor md ops b i || B.any fun c => Region.waitsFor md ops b c) = true) (htB : B.contains t = true) (ht : (B.all fun b => !listed.getD b true && b != i) = true) (hy : YieldsIf P ops S oi v a) (hS : S w)
    (h : wpU P md ops Q S t fuel (listed.setIfInBounds i true) (a.put oi.dst v) w) : wpU P md ops Q S t (fuel + 1) listed a w := by
  refine wpU_first_via B hi (Region.noSelect_spec hs) hQ (fun b hb ob hob => ?_) (by simpa using htB) fuel listed a w (Region.free_spec hi hf) (by simpa using hr) (fun b hb => ?_) hy hS h
  · have h1 := List.all_eq_true.1 hB b hb
    simp only [Bool.or_eq_true, List.any_eq_true] at h1
    rcases h1 with h1 | ⟨c, hc, h1⟩
    · obtain ⟨o', ho', e, he, hbd, hon⟩ := Region.waitsFor_spec h1
      rw [hob] at ho'; cases ho'
      exact ⟨e, he, hbd, .inl hon⟩
    · obtain ⟨o', ho', e, he, hbd, hon⟩ := Region.waitsFor_spec h1
      rw [hob] at ho'; cases ho'
      exact ⟨e, he, hbd, .inr (hon ▸ hc)⟩
  · have h1 := List.all_eq_true.1 ht b hb
    simpa using h1
end

theorem side_at {w0 : World} {ad : Addr} {xs : List Int} {n : Nat} (hl : xs.length = n) (hn : 0 < n) (h : IntsAt w0 (some ad) xs) : ∀ W : World, Below w0.heap.size w0 W → xs.length = n ∧ ∃ a', some ad = some a' ∧ ∀ j, j < n → W.cell? (a'.add j) = some (.int .i64 (xs.getD j 0)) := fun W hb => by
  obtain ⟨a', e, hc⟩ := (h.keep hb) (by omega)
  exact ⟨hl, a', e, fun j hj => hc j (by omega)⟩
theorem ints_some {w : World} {A : Option Addr} {xs : List Int} (h : IntsAt w A xs) (hx : 0 < xs.length) : ∃ ad, A = some ad := by
  obtain ⟨ad, e, -⟩ := h hx
  exact ⟨ad, e⟩
theorem Nine.mk' {w0 : World} {p n1 n2 N p11 : Nat} {Cap1 Cap2 : Int} {a1 a2 b1 b2 : Addr} {c1 c2 d1 d2 : Nat} {A3 B3 : Option Addr} {c3 d3 : Nat}
    (hx : w0.heap[p]? = some (.cells #[.int .i64 1, .int .i64 (n1 : Int), .int .i64 Cap1, .slice (some a1) n1 c1, .slice (some a2) n1 c2, .slice A3 0 c3] 25 (0, 0))) (hy : w0.heap[p + 1]? = some (.cells #[.int .i64 1, .int .i64 (n2 : Int), .int .i64 Cap2, .slice (some b1) n2 d1, .slice (some b2) n2 d2, .slice B3 0 d3] 25 (0, 0))) (hz : w0.heap[p11]? = some (.cells #[.int .i64 1, .int .i64 (N : Int), .int .i64 0, .slice none 0 0, .slice none 0 0, .slice none 0 0] 25 (0, 0))) : Nine p n1 n2 Cap1 Cap2 a1 a2 b1 b2 c1 c2 d1 d2 p11 w0 :=
  ⟨blk_cell hx 2, blk_cell hx 3, blk_cell hx 4, blk_cell hy 2, blk_cell hy 3, blk_cell hy 4, blk_free hz 2, blk_free hz 3, blk_free hz 4, blk_cell hz 2, blk_cell hz 3, blk_cell hz 4⟩

set_option maxRecDepth 200000 in
set_option maxHeartbeats 2000000 in
theorem beside_1 (I J : Inst) (hI : WF I) (hJ : WF J) (hL : isLarge I = true) (hL2 : isLarge J = true) (hk : I.kind = 1) (hk2 : J.kind = 1) (n1 n2 : Nat) (h1 : I.n = (n1 : Int)) (h2 : J.n = (n2 : Int)) (h7 : n1 ≤ 7) (h7' : n2 ≤ 7) (v u : Value) (w : World) (hv : InstAt w v I) (hu : InstAt w u J) (hT : TabW w) :
    Calls Tryd.prog 4 #[v, u] w fun e w' => e = .returned (.bool true) ∧ Below w.heap.size w w' := by
  obtain ⟨m1, e1, p1, -, lw1, lv1, lc1, hcp1, -⟩ := hI.knap hk
  obtain ⟨m2, e2, p2, -, lw2, lv2, -, hcp2, -⟩ := hJ.knap hk2
  obtain rfl : n1 = m1 := by omega
  obtain rfl : n2 = m2 := by omega
  obtain ⟨N, hN⟩ : ∃ N, n1 + n2 = N := ⟨_, rfl⟩
  have HS := Lib.hid (fun W => stands_any W)
  have H9 := Lib.hid (fun W hv => large_true I hI hL v W hv)
  have H9' := Lib.hid (fun W hu => large_true J hJ hL2 u W hu)
  have HBI := Lib.hid (fun W hv hT => topbest_any I hI (large_lim hL) v W hv hT)
  have HBJ := Lib.hid (fun W hu hT => topbest_any J hJ (large_lim hL2) u W hu hT)
  have HBB := Lib.hid (fun (hB : WF (bothK I J N)) x W hx hT => topbest_any (bothK I J N) hB ⟨fun _ => by show ((N : Nat) : Int) ≤ 18; omega, fun e => by have : I.kind = 3 := e; omega⟩ x W hx hT)
  have HCK := Lib.hid (fun W v hv => check_any (bothK I J N) v W hv)
  have HFIN := Lib.hid (fun x y z (hx : Opt I x) (hy : Opt J y) (hz : Opt (bothK I J (n1 + n2)) z) => both1_fin hk hk2 h1 h2 lw1 lv1 hx hy hz)
  rw [hN] at HFIN
  have HRI := Lib.hid (fun x (hx : Opt I x) => cost_range1 hI hx.1 hk)
  have HRJ := Lib.hid (fun x (hx : Opt J x) => cost_range1 hJ hx.1 hk2)
  have HV := Lib.hid hv
  have HU := Lib.hid hu
  have HT := Lib.hid hT
  have HK := Lib.hid hk
  have HLL := Lib.hid (And.intro lw1 (And.intro lv1 (And.intro lw2 (And.intro lv2 lc1))))
  obtain ⟨A1, c1, A2, c2, A3, c3, rfl, hc1, hc2, hA1, hA2⟩ := hv.kform hI hk h1
  obtain ⟨B1, d1, B2, d2, B3, d3, rfl, hd1, hd2, hB1, hB2⟩ := hu.kform hJ hk2 h2
  obtain ⟨a1, rfl⟩ := ints_some hA1 (by omega)
  obtain ⟨a2, rfl⟩ := ints_some hA2 (by omega)
  obtain ⟨b1, rfl⟩ := ints_some hB1 (by omega)
  obtain ⟨b2, rfl⟩ := ints_some hB2 (by omega)
  have HA1 := Lib.hid hA1
  have HA2 := Lib.hid hA2
  have HB1' := Lib.hid hB1
  have HB2' := Lib.hid hB2
  obtain ⟨Cap1, hC1⟩ : ∃ c, I.cap = c := ⟨_, rfl⟩
  obtain ⟨Cap2, hC2⟩ : ∃ c, J.cap = c := ⟨_, rfl⟩
  rw [hC1] at H9 HBI HV hcp1 ⊢
  rw [hC2] at H9' HBJ HU hcp2 ⊢
  obtain ⟨Cap, hCs⟩ : ∃ c, Cap1 + Cap2 = c := ⟨_, rfl⟩
  have HCAP := Lib.hid (show I.cap + J.cap = Cap by rw [hC1, hC2]; exact hCs)
  have hcw : IntKind.i64.wrap (Cap1 + Cap2) = Cap := by unfold numOk at hcp1 hcp2; rw [IntKind.wrap_i64]; omega
  have HCW := Lib.hid hcw
  have HN := Lib.hid hN
  have hNi : (n1 : Int) + (n2 : Int) = (N : Int) := by omega
  have hN14 : N ≤ 14 := by omega
  have hf1 : (n1 : Int) ≤ 7 := by omega
  have hf2 : (n2 : Int) ≤ 7 := by omega
  have hf3 : (n1 : Int) ≤ 8 := by omega
  have hf4 : (n2 : Int) ≤ 8 := by omega
  clear hcw hCs hC1 hC2 hcp1 hcp2 hN hI hJ hL hL2 hk hk2 h1 h2 e1 e2 lw1 lv1 lc1 lw2 lv2 hv hu hT hA1 hA2 hB1 hB2
  go_enter Tryd.func4, Tryd.ntmps4
  go_wp2_with fail
  refine (HS.out _).mono ?_
  rintro e w1 ⟨rfl, hb1⟩
  have hbx1 := heap_keep (heap_old' (heap_new w (.cells #[.int .i64 1, .int .i64 (n1 : Int), .int .i64 Cap1, .slice (some a1) n1 c1, .slice (some a2) n1 c2, .slice A3 0 c3] 25 (0, 0)) _ rfl) (.cells #[.int .i64 1, .int .i64 (n2 : Int), .int .i64 Cap2, .slice (some b1) n2 d1, .slice (some b2) n2 d2, .slice B3 0 d3] 25 (0, 0))) hb1
  have hby1 := heap_keep (heap_new (w.alloc (.cells #[.int .i64 1, .int .i64 (n1 : Int), .int .i64 Cap1, .slice (some a1) n1 c1, .slice (some a2) n1 c2, .slice A3 0 c3] 25 (0, 0))) (.cells #[.int .i64 1, .int .i64 (n2 : Int), .int .i64 Cap2, .slice (some b1) n2 d1, .slice (some b2) n2 d2, .slice B3 0 d3] 25 (0, 0)) (w.heap.size + 1) (by simp)) hb1
  have HX1 := Lib.hid hbx1
  have HY1 := Lib.hid hby1
  have HB1 := Lib.hid (keep_trans (two_boxes w _ _) hb1)
  have x0 := blk_cell hbx1 0
  have x1 := blk_cell hbx1 1
  have x2 := blk_cell hbx1 2
  have x3 := blk_cell hbx1 3
  have x4 := blk_cell hbx1 4
  have x5 := blk_cell hbx1 5
  have y0 := blk_cell hby1 0
  have y1 := blk_cell hby1 1
  have y2 := blk_cell hby1 2
  have y3 := blk_cell hby1 3
  have y4 := blk_cell hby1 4
  have y5 := blk_cell hby1 5
  clear hb1 hbx1 hby1
  go_wp2_with fail
  refine (H9.out _ (HV.out.keep HB1.out)).mono ?_
  rintro e w2 ⟨rfl, hb2⟩
  have hbx2 := heap_keep HX1.out hb2
  have hby2 := heap_keep HY1.out hb2
  have HX2 := Lib.hid hbx2
  have HY2 := Lib.hid hby2
  have HB2 := Lib.hid (keep_trans HB1.out hb2)
  clear x0 x1 x2 x3 x4 x5 y0 y1 y2 y3 y4 y5
  have x0 := blk_cell hbx2 0
  have x1 := blk_cell hbx2 1
  have x2 := blk_cell hbx2 2
  have x3 := blk_cell hbx2 3
  have x4 := blk_cell hbx2 4
  have x5 := blk_cell hbx2 5
  have y0 := blk_cell hby2 0
  have y1 := blk_cell hby2 1
  have y2 := blk_cell hby2 2
  have y3 := blk_cell hby2 3
  have y4 := blk_cell hby2 4
  have y5 := blk_cell hby2 5
  clear hb2 hbx2 hby2
  go_wp2_with fail
  refine (H9'.out _ (HU.out.keep HB2.out)).mono ?_
  rintro e w3 ⟨rfl, hb3⟩
  have hbx3 := heap_keep HX2.out hb3
  have hby3 := heap_keep HY2.out hb3
  have HX3 := Lib.hid hbx3
  have HY3 := Lib.hid hby3
  have HB3 := Lib.hid (keep_trans HB2.out hb3)
  clear x0 x1 x2 x3 x4 x5 y0 y1 y2 y3 y4 y5
  have x0 := blk_cell hbx3 0
  have x1 := blk_cell hbx3 1
  have x2 := blk_cell hbx3 2
  have x3 := blk_cell hbx3 3
  have x4 := blk_cell hbx3 4
  have x5 := blk_cell hbx3 5
  have y0 := blk_cell hby3 0
  have y1 := blk_cell hby3 1
  have y2 := blk_cell hby3 2
  have y3 := blk_cell hby3 3
  have y4 := blk_cell hby3 4
  have y5 := blk_cell hby3 5
  clear hb3 hbx3 hby3
  go_wp2_with fail
  refine (HBI.out _ (HV.out.keep HB3.out) (HT.out.keep HB3.out)).mono ?_
  rintro e w4 ⟨x, Ax, cx, rfl, hox, -, -, hb4⟩
  have hrg := HRI.out x hox
  obtain ⟨C, hC⟩ : ∃ C, costOf I x = C := ⟨_, rfl⟩
  rw [hC] at hrg ⊢
  have HC := Lib.hid hC
  have HRC := Lib.hid hrg
  have HOX := Lib.hid hox
  have hbx4 := heap_keep HX3.out hb4
  have hby4 := heap_keep HY3.out hb4
  have HX4 := Lib.hid hbx4
  have HY4 := Lib.hid hby4
  have HB4 := Lib.hid (keep_trans HB3.out hb4)
  clear x0 x1 x2 x3 x4 x5 y0 y1 y2 y3 y4 y5 hC hrg hox
  have x0 := blk_cell hbx4 0
  have x1 := blk_cell hbx4 1
  have x2 := blk_cell hbx4 2
  have x3 := blk_cell hbx4 3
  have x4 := blk_cell hbx4 4
  have x5 := blk_cell hbx4 5
  have y0 := blk_cell hby4 0
  have y1 := blk_cell hby4 1
  have y2 := blk_cell hby4 2
  have y3 := blk_cell hby4 3
  have y4 := blk_cell hby4 4
  have y5 := blk_cell hby4 5
  clear hb4 hbx4 hby4
  go_wp2_with fail
  refine (HBJ.out _ (HU.out.keep HB4.out) (HT.out.keep HB4.out)).mono ?_
  rintro e w5 ⟨y, Ay, cy, rfl, hoy, -, -, hb5⟩
  have hrg := HRJ.out y hoy
  obtain ⟨D, hD⟩ : ∃ D, costOf J y = D := ⟨_, rfl⟩
  rw [hD] at hrg ⊢
  have HD := Lib.hid hD
  have HRD := Lib.hid hrg
  have HOY := Lib.hid hoy
  have hbx5 := heap_keep HX4.out hb5
  have hby5 := heap_keep HY4.out hb5
  have HX5 := Lib.hid hbx5
  have HY5 := Lib.hid hby5
  have HB5 := Lib.hid (keep_trans HB4.out hb5)
  have hxl := heap_lt hbx5
  have hyl := heap_lt hby5
  clear x0 x1 x2 x3 x4 x5 y0 y1 y2 y3 y4 y5 hD hrg hoy
  have x0 := blk_cell hbx5 0
  have x1 := blk_cell hbx5 1
  have x2 := blk_cell hbx5 2
  have x3 := blk_cell hbx5 3
  have x4 := blk_cell hbx5 4
  have x5 := blk_cell hbx5 5
  have y0 := blk_cell hby5 0
  have y1 := blk_cell hby5 1
  have y2 := blk_cell hby5 2
  have y3 := blk_cell hby5 3
  have y4 := blk_cell hby5 4
  have y5 := blk_cell hby5 5
  clear hb5 hbx5 hby5 HX1 HX2 HX3 HX4 HY1 HY2 HY3 HY4 HB1 HB2 HB3 HB4 H9 H9' HBI HBJ HRI HRJ HS
  go_upto_region 7 with (fail)
  have hp := heap_new w5 (.cells #[.int .i64 1, .int .i64 (N : Int), .int .i64 0, .slice none 0 0, .slice none 0 0, .slice none 0 0] 25 (0, 0)) _ rfl
  have hx := heap_old' HX5.out (.cells #[.int .i64 1, .int .i64 (N : Int), .int .i64 0, .slice none 0 0, .slice none 0 0, .slice none 0 0] 25 (0, 0))
  have hy := heap_old' HY5.out (.cells #[.int .i64 1, .int .i64 (N : Int), .int .i64 0, .slice none 0 0, .slice none 0 0, .slice none 0 0] 25 (0, 0))
  have hB0 := HB5.out.alloc HB5.out.size (.cells #[.int .i64 1, .int .i64 (N : Int), .int .i64 0, .slice none 0 0, .slice none 0 0, .slice none 0 0] 25 (0, 0))
  have hps : w5.heap.size + 1 = (w5.alloc (.cells #[.int .i64 1, .int .i64 (N : Int), .int .i64 0, .slice none 0 0, .slice none 0 0, .slice none 0 0] 25 (0, 0))).heap.size := by simp
  generalize hw0 : w5.alloc (.cells #[.int .i64 1, .int .i64 (N : Int), .int .i64 0, .slice none 0 0, .slice none 0 0, .slice none 0 0] 25 (0, 0)) = w0 at *
  clear hw0
  have HB0 := Lib.hid hB0
  have HN0 := Lib.hid (Nine.mk' hx hy hp)
  have HNK := Lib.hid (fun W (hb : Below w0.heap.size w0 W) => HN0.out.keep hb)
  have HW1 := Lib.hid (side_at HLL.out.1 (by omega) (HA1.out.keep hB0))
  have HW2 := Lib.hid (side_at HLL.out.2.1 (by omega) (HA2.out.keep hB0))
  have HW3 := Lib.hid (side_at HLL.out.2.2.1 (by omega) (HB1'.out.keep hB0))
  have HW4 := Lib.hid (side_at HLL.out.2.2.2.1 (by omega) (HB2'.out.keep hB0))
  have hl1 : ([] : List Int).length + n1 ≤ 1000000 := by simp; omega
  have hl2 : (([] : List Int) ++ I.ws).length + n2 ≤ 1000000 := by have := HLL.out.1; simp; omega
  have hl4 : (([] : List Int) ++ I.vs).length + n2 ≤ 1000000 := by have := HLL.out.2.1; simp; omega
  have HFB := Lib.hid (fun (k4 Wf : World) (Aw Av : Option Addr) (cw cv : Nat) g (e1 : Wf.heap = (((k4.setCell ⟨w5.heap.size, 2, none⟩ (.int .i64 Cap)).setCell ⟨w5.heap.size, 3, none⟩ (.slice Aw (I.ws.length + J.ws.length) cw)).setCell ⟨w5.heap.size, 4, none⟩ (.slice Av (I.vs.length + J.vs.length) cv)).heap) e2 e3 e4 => finB_ok (I := I) (J := J) (n1 := n1) (n2 := n2) (N := N) (Cap := Cap) (w0 := w0) (k4 := k4) (Wf := Wf) (Aw := Aw) (Av := Av) (cw := cw) (cv := cv) HN.out HLL.out.1 HLL.out.2.1 HLL.out.2.2.1 HLL.out.2.2.2.1 hps hp g (by rw [List.length_append, List.length_append, List.length_append, List.length_append, List.length_nil, Nat.zero_add, Nat.zero_add]; exact e1) e2 e3 e4)
  have hcw := HCW.out
  clear hp hx hy hB0 x0 x1 x2 x3 x4 x5 y0 y1 y2 y3 y4 y5 hxl hyl
  go_cut [] (fun wc => Hid (FinB I J N Cap w5.heap.size w0 wc))
  case first =>
    have HSX0 := Lib.hid (HNK.out w0.drew (below_eqhx (Below.refl _ _) rfl rfl rfl rfl))
    refine wp_region_U (S := Nine w.heap.size n1 n2 Cap1 Cap2 a1 a2 b1 b2 c1 c2 d1 d2 w5.heap.size) 20 (by kernel_rfl) ?_
    refine wpU_pure (i := 0) (v := ?_) rfl (by kernel_rfl) (by kernel_rfl) (by kernel_rfl) (fun _ _ _ h => h) (by kernel_rfl) (Or.inl ⟨by rfl, ?_⟩) HSX0.out ?_
    rotate_left
    · intro W _
      go_simp
      try with_reducible rfl
    refine wpU_take_via (i := 1) (v := ?_) [20] rfl (by kernel_rfl) (by kernel_rfl) (by kernel_rfl) (fun _ _ _ h => h) (by kernel_rfl) (by kernel_rfl) (by kernel_rfl) (Or.inl ⟨by rfl, ?_⟩) HSX0.out ?_
    rotate_left
    · intro W hW
      obtain ⟨q1, q2, q3, q4, q5, q6, r1, r2, r3, s1, s2, s3⟩ := hW
      go_simp
      try with_reducible rfl
    refine wpU_pure (i := 2) (v := ?_) rfl (by kernel_rfl) (by kernel_rfl) (by kernel_rfl) (fun _ _ _ h => h) (by kernel_rfl) (Or.inl ⟨by rfl, ?_⟩) HSX0.out ?_
    rotate_left
    · intro W _
      go_simp
      try with_reducible rfl
    refine wpU_take_via (i := 3) (v := ?_) [20] rfl (by kernel_rfl) (by kernel_rfl) (by kernel_rfl) (fun _ _ _ h => h) (by kernel_rfl) (by kernel_rfl) (by kernel_rfl) (Or.inl ⟨by rfl, ?_⟩) HSX0.out ?_
    rotate_left
    · intro W hW
      obtain ⟨q1, q2, q3, q4, q5, q6, r1, r2, r3, s1, s2, s3⟩ := hW
      go_simp
      try with_reducible rfl
    refine wpU_pure (i := 4) (v := ?_) rfl (by kernel_rfl) (by kernel_rfl) (by kernel_rfl) (fun _ _ _ h => h) (by kernel_rfl) (Or.inl ⟨by rfl, ?_⟩) HSX0.out ?_
    rotate_left
    · intro W _
      go_simp
      try with_reducible rfl
    refine wpU_pure (i := 6) (v := ?_) rfl (by kernel_rfl) (by kernel_rfl) (by kernel_rfl) (fun _ _ _ h => h) (by kernel_rfl) (Or.inl ⟨by rfl, ?_⟩) HSX0.out ?_
    rotate_left
    · intro W _
      go_simp
      try with_reducible rfl
    refine wpU_take_via (i := 7) (v := ?_) [8, 11, 15, 18, 20] rfl (by kernel_rfl) (by kernel_rfl) (by kernel_rfl) (fun _ _ _ h => h) (by kernel_rfl) (by kernel_rfl) (by kernel_rfl) (Or.inl ⟨by rfl, ?_⟩) HSX0.out ?_
    rotate_left
    · intro W hW
      obtain ⟨q1, q2, q3, q4, q5, q6, r1, r2, r3, s1, s2, s3⟩ := hW
      go_simp
      try with_reducible rfl
    refine wpU_pure (i := 9) (v := ?_) rfl (by kernel_rfl) (by kernel_rfl) (by kernel_rfl) (fun _ _ _ h => h) (by kernel_rfl) (Or.inl ⟨by rfl, ?_⟩) HSX0.out ?_
    rotate_left
    · intro W _
      go_simp
      try with_reducible rfl
    refine wpU_take_via (i := 10) (v := ?_) [11, 15, 18, 20] rfl (by kernel_rfl) (by kernel_rfl) (by kernel_rfl) (fun _ _ _ h => h) (by kernel_rfl) (by kernel_rfl) (by kernel_rfl) (Or.inl ⟨by rfl, ?_⟩) HSX0.out ?_
    rotate_left
    · intro W hW
      obtain ⟨q1, q2, q3, q4, q5, q6, r1, r2, r3, s1, s2, s3⟩ := hW
      go_simp
      try with_reducible rfl
    refine wpU_pure (i := 13) (v := ?_) rfl (by kernel_rfl) (by kernel_rfl) (by kernel_rfl) (fun _ _ _ h => h) (by kernel_rfl) (Or.inl ⟨by rfl, ?_⟩) HSX0.out ?_
    rotate_left
    · intro W _
      go_simp
      try with_reducible rfl
    refine wpU_take_via (i := 14) (v := ?_) [15, 18, 20] rfl (by kernel_rfl) (by kernel_rfl) (by kernel_rfl) (fun _ _ _ h => h) (by kernel_rfl) (by kernel_rfl) (by kernel_rfl) (Or.inl ⟨by rfl, ?_⟩) HSX0.out ?_
    rotate_left
    · intro W hW
      obtain ⟨q1, q2, q3, q4, q5, q6, r1, r2, r3, s1, s2, s3⟩ := hW
      go_simp
      try with_reducible rfl
    refine wpU_pure (i := 16) (v := ?_) rfl (by kernel_rfl) (by kernel_rfl) (by kernel_rfl) (fun _ _ _ h => h) (by kernel_rfl) (Or.inl ⟨by rfl, ?_⟩) HSX0.out ?_
    rotate_left
    · intro W _
      go_simp
      try with_reducible rfl
    refine wpU_take_via (i := 17) (v := ?_) [18, 20] rfl (by kernel_rfl) (by kernel_rfl) (by kernel_rfl) (fun _ _ _ h => h) (by kernel_rfl) (by kernel_rfl) (by kernel_rfl) (Or.inl ⟨by rfl, ?_⟩) HSX0.out ?_
    rotate_left
    · intro W hW
      obtain ⟨q1, q2, q3, q4, q5, q6, r1, r2, r3, s1, s2, s3⟩ := hW
      go_simp
      try with_reducible rfl
    refine wpU_pure (i := 19) (v := ?_) rfl (by kernel_rfl) (by kernel_rfl) (by kernel_rfl) (fun _ _ _ h => h) (by kernel_rfl) (Or.inl ⟨by rfl, ?_⟩) HSX0.out ?_
    rotate_left
    · intro W _
      go_simp
      try with_reducible rfl
    refine wpU_two (i := 5) (j := 12) (by kernel_rfl) ?_ ?_
    · refine wpU_step (by rfl) (fun K hK => ?_)
      go_simp
      refine hK _ _ (fun _ => HNK.out _ (L2.start w0 _ (by rfl) (by rfl) (by rfl) (by rfl)).below) ?_
      clear hK K
      refine wpU_two (i := 8) (j := 12) (by kernel_rfl) ?_ ?_
      · refine wpU_step (by rfl) (fun K hK => ?_)
        refine step_beside (by rfl) (by rfl) w0 (.slice (some ⟨w0.heap.size, 0, none⟩) 0 0) ([]) (by rfl) _ (.slice none 0 0) ([]) (L2.start w0 _ (by rfl) (by rfl) (by rfl) (by rfl)) (some a1) n1 c1 I.ws HW1.out (by rfl) hl1 ?_
        intro v1 k1 hLv1
        have Hv1 := Lib.hid hLv1
        refine hK _ _ (fun _ => HNK.out _ hLv1.below) ?_
        clear hK K hLv1
        refine wpU_two (i := 11) (j := 12) (by kernel_rfl) ?_ ?_
        · refine wpU_step (by rfl) (fun K hK => ?_)
          refine step_beside (by rfl) (by rfl) w0 (v1) ([] ++ I.ws) (by rfl) _ (.slice none 0 0) ([]) (Hv1.out.same _ (by rfl) (by rfl) (by rfl) (by rfl)) (some b1) n2 d1 J.ws HW3.out (by rfl) hl2 ?_
          intro v2 k2 hLv2
          have Hv2 := Lib.hid hLv2
          refine hK _ _ (fun _ => HNK.out _ hLv2.below) ?_
          clear hK K hLv2
          refine wpU_one (i := 12) (by kernel_rfl) ?_
          refine wpU_step (by rfl) (fun K hK => ?_)
          go_simp
          refine hK _ _ (fun _ => HNK.out _ (Hv2.out.alloc2 _ (by rfl) (by rfl) (by rfl) (by rfl)).below) ?_
          clear hK K
          refine wpU_one (i := 15) (by kernel_rfl) ?_
          refine wpU_step (by rfl) (fun K hK => ?_)
          refine step_beside (by rfl) (by rfl) w0 (.slice (some ⟨k2.heap.size, 0, none⟩) 0 0) ([]) (by rfl) _ (v2) ([] ++ I.ws ++ J.ws) ((Hv2.out.alloc2 _ (by rfl) (by rfl) (by rfl) (by rfl)).swap) (some a2) n1 c2 I.vs HW2.out (by rfl) hl1 ?_
          intro v3 k3 hLv3
          have Hv3 := Lib.hid hLv3
          refine hK _ _ (fun _ => HNK.out _ hLv3.below) ?_
          clear hK K hLv3
          refine wpU_one (i := 18) (by kernel_rfl) ?_
          refine wpU_step (by rfl) (fun K hK => ?_)
          refine step_beside (by rfl) (by rfl) w0 (v3) ([] ++ I.vs) (by rfl) _ (v2) ([] ++ I.ws ++ J.ws) (Hv3.out.same _ (by rfl) (by rfl) (by rfl) (by rfl)) (some b2) n2 d2 J.vs HW4.out (by rfl) hl4 ?_
          intro v4 k4 hLv4
          have Hv4 := Lib.hid hLv4
          refine hK _ _ (fun _ => HNK.out _ hLv4.below) ?_
          clear hK K hLv4
          obtain ⟨Av, cv, ev⟩ := Hv4.out.own.form
          obtain ⟨Aw, cw, ew⟩ := Hv4.out.own'.form
          subst ev ew
          have hN4 := HNK.out _ Hv4.out.below
          obtain ⟨q1, q2, q3, q4, q5, q6, r1, r2, r3, s1, s2, s3⟩ := hN4
          refine wpU_one (i := 20) (by kernel_rfl) ?_
          refine wpU_step (by rfl) (fun K hK => ?_)
          go_simp
          refine hK _ _ (fun h => absurd (show (true : Bool) = false from h) (by decide)) ?_
          clear hK K
          refine wpU_of_any _ _ _ _ (by rfl) ?_
          refine wpAny_take (i := 21) (v := ?_) rfl (by kernel_rfl) (by kernel_rfl) (by kernel_rfl) (fun _ _ _ h => h) (Or.inl ⟨by rfl, ?_⟩) ?_
          rotate_left
          · intro W
            go_simp
            try with_reducible rfl
          refine wpAny_ready (rs := [22]) (by kernel_rfl) (by simp) ?_
          refine AllReady.cons (by rfl) (fun K hK => ?_) AllReady.nil
          go_simp
          refine hK _ _ ?_
          clear hK K
          refine wpAny_take (i := 23) (v := ?_) rfl (by kernel_rfl) (by kernel_rfl) (by kernel_rfl) (fun _ _ _ h => h) (Or.inl ⟨by rfl, ?_⟩) ?_
          rotate_left
          · intro W
            go_simp
            try with_reducible rfl
          refine wpAny_ready (rs := [24]) (by kernel_rfl) (by simp) ?_
          refine AllReady.cons (by rfl) (fun K hK => ?_) AllReady.nil
          go_simp
          refine hK _ _ ?_
          clear hK K
          refine wpAny_done (by kernel_rfl) ?_ _
          refine NoPanic.normal ?_
          clear q1 q2 q3 q4 q5 q6 r1 r2 r3 s1 s2 s3
          go_wp2
          go_meet
          exact Lib.hid (HFB.out _ _ _ _ _ _ Hv4.out rfl rfl rfl rfl)
        · refine wpU_step (by rfl) (fun K hK => ?_)
          go_simp
          refine hK _ _ (fun _ => HNK.out _ (Hv1.out.alloc2 _ (by rfl) (by rfl) (by rfl) (by rfl)).below) ?_
          clear hK K
          refine wpU_one (i := 11) (by kernel_rfl) ?_
          refine wpU_step (by rfl) (fun K hK => ?_)
          refine step_beside (by rfl) (by rfl) w0 (v1) ([] ++ I.ws) (by rfl) _ (.slice (some ⟨k1.heap.size, 0, none⟩) 0 0) ([]) (Hv1.out.alloc2 _ (by rfl) (by rfl) (by rfl) (by rfl)) (some b1) n2 d1 J.ws HW3.out (by rfl) hl2 ?_
          intro v2 k2 hLv2
          have Hv2 := Lib.hid hLv2
          refine hK _ _ (fun _ => HNK.out _ hLv2.below) ?_
          clear hK K hLv2
          refine wpU_one (i := 15) (by kernel_rfl) ?_
          refine wpU_step (by rfl) (fun K hK => ?_)
          refine step_beside (by rfl) (by rfl) w0 (.slice (some ⟨k1.heap.size, 0, none⟩) 0 0) ([]) (by rfl) _ (v2) ([] ++ I.ws ++ J.ws) ((Hv2.out.same _ (by rfl) (by rfl) (by rfl) (by rfl)).swap) (some a2) n1 c2 I.vs HW2.out (by rfl) hl1 ?_
          intro v3 k3 hLv3
          have Hv3 := Lib.hid hLv3
          refine hK _ _ (fun _ => HNK.out _ hLv3.below) ?_
          clear hK K hLv3
          refine wpU_one (i := 18) (by kernel_rfl) ?_
          refine wpU_step (by rfl) (fun K hK => ?_)
          refine step_beside (by rfl) (by rfl) w0 (v3) ([] ++ I.vs) (by rfl) _ (v2) ([] ++ I.ws ++ J.ws) (Hv3.out.same _ (by rfl) (by rfl) (by rfl) (by rfl)) (some b2) n2 d2 J.vs HW4.out (by rfl) hl4 ?_
          intro v4 k4 hLv4
          have Hv4 := Lib.hid hLv4
          refine hK _ _ (fun _ => HNK.out _ hLv4.below) ?_
          clear hK K hLv4
          obtain ⟨Av, cv, ev⟩ := Hv4.out.own.form
          obtain ⟨Aw, cw, ew⟩ := Hv4.out.own'.form
          subst ev ew
          have hN4 := HNK.out _ Hv4.out.below
          obtain ⟨q1, q2, q3, q4, q5, q6, r1, r2, r3, s1, s2, s3⟩ := hN4
          refine wpU_one (i := 20) (by kernel_rfl) ?_
          refine wpU_step (by rfl) (fun K hK => ?_)
          go_simp
          refine hK _ _ (fun h => absurd (show (true : Bool) = false from h) (by decide)) ?_
          clear hK K
          refine wpU_of_any _ _ _ _ (by rfl) ?_
          refine wpAny_take (i := 21) (v := ?_) rfl (by kernel_rfl) (by kernel_rfl) (by kernel_rfl) (fun _ _ _ h => h) (Or.inl ⟨by rfl, ?_⟩) ?_
          rotate_left
          · intro W
            go_simp
            try with_reducible rfl
          refine wpAny_ready (rs := [22]) (by kernel_rfl) (by simp) ?_
          refine AllReady.cons (by rfl) (fun K hK => ?_) AllReady.nil
          go_simp
          refine hK _ _ ?_
          clear hK K
          refine wpAny_take (i := 23) (v := ?_) rfl (by kernel_rfl) (by kernel_rfl) (by kernel_rfl) (fun _ _ _ h => h) (Or.inl ⟨by rfl, ?_⟩) ?_
          rotate_left
          · intro W
            go_simp
            try with_reducible rfl
          refine wpAny_ready (rs := [24]) (by kernel_rfl) (by simp) ?_
          refine AllReady.cons (by rfl) (fun K hK => ?_) AllReady.nil
          go_simp
          refine hK _ _ ?_
          clear hK K
          refine wpAny_done (by kernel_rfl) ?_ _
          refine NoPanic.normal ?_
          clear q1 q2 q3 q4 q5 q6 r1 r2 r3 s1 s2 s3
          go_wp2
          go_meet
          exact Lib.hid (HFB.out _ _ _ _ _ _ Hv4.out rfl rfl rfl rfl)
      · refine wpU_step (by rfl) (fun K hK => ?_)
        go_simp
        refine hK _ _ (fun _ => HNK.out _ (L2.start2 w0 _ (by rfl) (by rfl) (by rfl) (by rfl)).below) ?_
        clear hK K
        refine wpU_one (i := 8) (by kernel_rfl) ?_
        refine wpU_step (by rfl) (fun K hK => ?_)
        refine step_beside (by rfl) (by rfl) w0 (.slice (some ⟨w0.heap.size, 0, none⟩) 0 0) ([]) (by rfl) _ (.slice (some ⟨w0.heap.size + 1, 0, none⟩) 0 0) ([]) (L2.start2 w0 _ (by rfl) (by rfl) (by rfl) (by rfl)) (some a1) n1 c1 I.ws HW1.out (by rfl) hl1 ?_
        intro v1 k1 hLv1
        have Hv1 := Lib.hid hLv1
        refine hK _ _ (fun _ => HNK.out _ hLv1.below) ?_
        clear hK K hLv1
        refine wpU_one (i := 11) (by kernel_rfl) ?_
        refine wpU_step (by rfl) (fun K hK => ?_)
        refine step_beside (by rfl) (by rfl) w0 (v1) ([] ++ I.ws) (by rfl) _ (.slice (some ⟨w0.heap.size + 1, 0, none⟩) 0 0) ([]) (Hv1.out.same _ (by rfl) (by rfl) (by rfl) (by rfl)) (some b1) n2 d1 J.ws HW3.out (by rfl) hl2 ?_
        intro v2 k2 hLv2
        have Hv2 := Lib.hid hLv2
        refine hK _ _ (fun _ => HNK.out _ hLv2.below) ?_
        clear hK K hLv2
        refine wpU_one (i := 15) (by kernel_rfl) ?_
        refine wpU_step (by rfl) (fun K hK => ?_)
        refine step_beside (by rfl) (by rfl) w0 (.slice (some ⟨w0.heap.size + 1, 0, none⟩) 0 0) ([]) (by rfl) _ (v2) ([] ++ I.ws ++ J.ws) ((Hv2.out.same _ (by rfl) (by rfl) (by rfl) (by rfl)).swap) (some a2) n1 c2 I.vs HW2.out (by rfl) hl1 ?_
        intro v3 k3 hLv3
        have Hv3 := Lib.hid hLv3
        refine hK _ _ (fun _ => HNK.out _ hLv3.below) ?_
        clear hK K hLv3
        refine wpU_one (i := 18) (by kernel_rfl) ?_
        refine wpU_step (by rfl) (fun K hK => ?_)
        refine step_beside (by rfl) (by rfl) w0 (v3) ([] ++ I.vs) (by rfl) _ (v2) ([] ++ I.ws ++ J.ws) (Hv3.out.same _ (by rfl) (by rfl) (by rfl) (by rfl)) (some b2) n2 d2 J.vs HW4.out (by rfl) hl4 ?_
        intro v4 k4 hLv4
        have Hv4 := Lib.hid hLv4
        refine hK _ _ (fun _ => HNK.out _ hLv4.below) ?_
        clear hK K hLv4
        obtain ⟨Av, cv, ev⟩ := Hv4.out.own.form
        obtain ⟨Aw, cw, ew⟩ := Hv4.out.own'.form
        subst ev ew
        have hN4 := HNK.out _ Hv4.out.below
        obtain ⟨q1, q2, q3, q4, q5, q6, r1, r2, r3, s1, s2, s3⟩ := hN4
        refine wpU_one (i := 20) (by kernel_rfl) ?_
        refine wpU_step (by rfl) (fun K hK => ?_)
        go_simp
        refine hK _ _ (fun h => absurd (show (true : Bool) = false from h) (by decide)) ?_
        clear hK K
        refine wpU_of_any _ _ _ _ (by rfl) ?_
        refine wpAny_take (i := 21) (v := ?_) rfl (by kernel_rfl) (by kernel_rfl) (by kernel_rfl) (fun _ _ _ h => h) (Or.inl ⟨by rfl, ?_⟩) ?_
        rotate_left
        · intro W
          go_simp
          try with_reducible rfl
        refine wpAny_ready (rs := [22]) (by kernel_rfl) (by simp) ?_
        refine AllReady.cons (by rfl) (fun K hK => ?_) AllReady.nil
        go_simp
        refine hK _ _ ?_
        clear hK K
        refine wpAny_take (i := 23) (v := ?_) rfl (by kernel_rfl) (by kernel_rfl) (by kernel_rfl) (fun _ _ _ h => h) (Or.inl ⟨by rfl, ?_⟩) ?_
        rotate_left
        · intro W
          go_simp
          try with_reducible rfl
        refine wpAny_ready (rs := [24]) (by kernel_rfl) (by simp) ?_
        refine AllReady.cons (by rfl) (fun K hK => ?_) AllReady.nil
        go_simp
        refine hK _ _ ?_
        clear hK K
        refine wpAny_done (by kernel_rfl) ?_ _
        refine NoPanic.normal ?_
        clear q1 q2 q3 q4 q5 q6 r1 r2 r3 s1 s2 s3
        go_wp2
        go_meet
        exact Lib.hid (HFB.out _ _ _ _ _ _ Hv4.out rfl rfl rfl rfl)
    · refine wpU_step (by rfl) (fun K hK => ?_)
      go_simp
      refine hK _ _ (fun _ => HNK.out _ (L2.start w0 _ (by rfl) (by rfl) (by rfl) (by rfl)).below) ?_
      clear hK K
      refine wpU_one (i := 5) (by kernel_rfl) ?_
      refine wpU_step (by rfl) (fun K hK => ?_)
      go_simp
      refine hK _ _ (fun _ => HNK.out _ (L2.start2 w0 _ (by rfl) (by rfl) (by rfl) (by rfl)).below) ?_
      clear hK K
      refine wpU_one (i := 8) (by kernel_rfl) ?_
      refine wpU_step (by rfl) (fun K hK => ?_)
      refine step_beside (by rfl) (by rfl) w0 (.slice (some ⟨w0.heap.size + 1, 0, none⟩) 0 0) ([]) (by rfl) _ (.slice (some ⟨w0.heap.size, 0, none⟩) 0 0) ([]) ((L2.start2 w0 _ (by rfl) (by rfl) (by rfl) (by rfl)).swap) (some a1) n1 c1 I.ws HW1.out (by rfl) hl1 ?_
      intro v1 k1 hLv1
      have Hv1 := Lib.hid hLv1
      refine hK _ _ (fun _ => HNK.out _ hLv1.below) ?_
      clear hK K hLv1
      refine wpU_one (i := 11) (by kernel_rfl) ?_
      refine wpU_step (by rfl) (fun K hK => ?_)
      refine step_beside (by rfl) (by rfl) w0 (v1) ([] ++ I.ws) (by rfl) _ (.slice (some ⟨w0.heap.size, 0, none⟩) 0 0) ([]) (Hv1.out.same _ (by rfl) (by rfl) (by rfl) (by rfl)) (some b1) n2 d1 J.ws HW3.out (by rfl) hl2 ?_
      intro v2 k2 hLv2
      have Hv2 := Lib.hid hLv2
      refine hK _ _ (fun _ => HNK.out _ hLv2.below) ?_
      clear hK K hLv2
      refine wpU_one (i := 15) (by kernel_rfl) ?_
      refine wpU_step (by rfl) (fun K hK => ?_)
      refine step_beside (by rfl) (by rfl) w0 (.slice (some ⟨w0.heap.size, 0, none⟩) 0 0) ([]) (by rfl) _ (v2) ([] ++ I.ws ++ J.ws) ((Hv2.out.same _ (by rfl) (by rfl) (by rfl) (by rfl)).swap) (some a2) n1 c2 I.vs HW2.out (by rfl) hl1 ?_
      intro v3 k3 hLv3
      have Hv3 := Lib.hid hLv3
      refine hK _ _ (fun _ => HNK.out _ hLv3.below) ?_
      clear hK K hLv3
      refine wpU_one (i := 18) (by kernel_rfl) ?_
      refine wpU_step (by rfl) (fun K hK => ?_)
      refine step_beside (by rfl) (by rfl) w0 (v3) ([] ++ I.vs) (by rfl) _ (v2) ([] ++ I.ws ++ J.ws) (Hv3.out.same _ (by rfl) (by rfl) (by rfl) (by rfl)) (some b2) n2 d2 J.vs HW4.out (by rfl) hl4 ?_
      intro v4 k4 hLv4
      have Hv4 := Lib.hid hLv4
      refine hK _ _ (fun _ => HNK.out _ hLv4.below) ?_
      clear hK K hLv4
      obtain ⟨Av, cv, ev⟩ := Hv4.out.own.form
      obtain ⟨Aw, cw, ew⟩ := Hv4.out.own'.form
      subst ev ew
      have hN4 := HNK.out _ Hv4.out.below
      obtain ⟨q1, q2, q3, q4, q5, q6, r1, r2, r3, s1, s2, s3⟩ := hN4
      refine wpU_one (i := 20) (by kernel_rfl) ?_
      refine wpU_step (by rfl) (fun K hK => ?_)
      go_simp
      refine hK _ _ (fun h => absurd (show (true : Bool) = false from h) (by decide)) ?_
      clear hK K
      refine wpU_of_any _ _ _ _ (by rfl) ?_
      refine wpAny_take (i := 21) (v := ?_) rfl (by kernel_rfl) (by kernel_rfl) (by kernel_rfl) (fun _ _ _ h => h) (Or.inl ⟨by rfl, ?_⟩) ?_
      rotate_left
      · intro W
        go_simp
        try with_reducible rfl
      refine wpAny_ready (rs := [22]) (by kernel_rfl) (by simp) ?_
      refine AllReady.cons (by rfl) (fun K hK => ?_) AllReady.nil
      go_simp
      refine hK _ _ ?_
      clear hK K
      refine wpAny_take (i := 23) (v := ?_) rfl (by kernel_rfl) (by kernel_rfl) (by kernel_rfl) (fun _ _ _ h => h) (Or.inl ⟨by rfl, ?_⟩) ?_
      rotate_left
      · intro W
        go_simp
        try with_reducible rfl
      refine wpAny_ready (rs := [24]) (by kernel_rfl) (by simp) ?_
      refine AllReady.cons (by rfl) (fun K hK => ?_) AllReady.nil
      go_simp
      refine hK _ _ ?_
      clear hK K
      refine wpAny_done (by kernel_rfl) ?_ _
      refine NoPanic.normal ?_
      clear q1 q2 q3 q4 q5 q6 r1 r2 r3 s1 s2 s3
      go_wp2
      go_meet
      exact Lib.hid (HFB.out _ _ _ _ _ _ Hv4.out rfl rfl rfl rfl)
  case rest =>
    obtain ⟨Aw, cw, Av, cv, hz, hcw2, hcv2, iw, iv, hBw⟩ := hcut.out
    have hin := bothK_at HK.out HN.out hN14 HLL.out.1 HLL.out.2.1 HLL.out.2.2.1 HLL.out.2.2.2.1 HLL.out.2.2.2.2 HCAP.out (show n1 + n2 ≤ cw by have := HN.out; omega) (show n1 + n2 ≤ cv by have := HN.out; omega) iw iv
    have HIN := Lib.hid hin
    have HBW := Lib.hid (HB0.out.trans (hBw.mono HB5.out.size))
    have HZ := Lib.hid hz
    have hzl := heap_lt hz
    have z0 := blk_cell hz 0
    have z1 := blk_cell hz 1
    have z2 := blk_cell hz 2
    have z3 := blk_cell hz 3
    have z4 := blk_cell hz 4
    have z5 := blk_cell hz 5
    clear hin iw iv hBw hz hcut hcw hl1 hl2 hl4 HFB HNK HN0 HW1 HW2 HW3 HW4
    go_wp2_with fail
    refine (HCK.out _ _ HIN.out).mono ?_
    rintro e w6 ⟨rr, rfl, hrr, hb6⟩
    have HB6 := Lib.hid (keep_trans HBW.out hb6)
    have hz6 := heap_keep HZ.out hb6
    have HIN6 := Lib.hid (HIN.out.keep hb6)
    have HWJ := Lib.hid hrr
    have HZ6 := Lib.hid hz6
    clear z0 z1 z2 z3 z4 z5 hzl
    have hzl := heap_lt hz6
    have z0 := blk_cell hz6 0
    have z1 := blk_cell hz6 1
    have z2 := blk_cell hz6 2
    have z3 := blk_cell hz6 3
    have z4 := blk_cell hz6 4
    have z5 := blk_cell hz6 5
    clear hrr hb6 hz6
    rcases Bool.eq_false_or_eq_true (rr != 0) with hr0 | hr0
    · clear HWJ
      go_wp2
      go_ret
      exact ⟨rfl, HB6.out⟩
    have hr0' : rr = 0 := by simpa using hr0
    subst hr0'
    clear hr0
    go_wp2_with fail
    refine (HBB.out (HWJ.out.1 (by first | rfl | trivial)) _ _ HIN6.out (HT.out.keep HB6.out)).mono ?_
    rintro e w7 ⟨z, Az, cz, rfl, hoz, -, -, hb7⟩
    have hfin := HFIN.out x y z HOX.out HOY.out hoz
    rw [HC.out, HD.out] at hfin
    obtain ⟨E, hE⟩ : ∃ E, costOf (bothK I J N) z = E := ⟨_, rfl⟩
    rw [hE] at hfin ⊢
    have hc := HRC.out
    have hd := HRD.out
    have hsum : IntKind.i64.wrap (C + D) = C + D := by rw [IntKind.wrap_i64]; omega
    have HB7 := Lib.hid (keep_trans HB6.out hb7)
    clear hE hoz hb7 z0 z1 z2 z3 z4 z5 hzl
    go_wp2
    go_ret
    exact ⟨rfl, HB7.out⟩
end Go.Proofs.YtmfgffmlnfimcaaDoor
