/- The walks of value.order, value.Cost, exact.takes and exact.told at a solution. -/
import Derived.Test.YtmfgffmlnfimcaaDoorD
import Derived.Test.YtmfgffmlnfimcaaDoorM0
namespace Go.Proofs.YtmfgffmlnfimcaaDoor
open Go Go.RowKit

theorem PermL.inj {n : Nat} {x : List Int} (h : PermL n x) : Inj n (fun j => (x.getD j 0).toNat) :=
  ⟨fun j hj => by have := h.2.1 j hj; dsimp only; omega, fun j k hj hk e => h.2.2 j k hj hk (by have := h.2.1 j hj; have := h.2.1 k hk; dsimp only at e; omega)⟩

theorem perm_onto {n : Nat} {x : List Int} (h : PermL n x) : ∀ i, i < n → ∃ j, j < n ∧ (x.getD j 0).toNat = i :=
  (PermL.inj h).onto

theorem perm_mask {n : Nat} {x : List Int} (h : PermL n x) : maskL x n = 2 ^ n - 1 := by
  apply Nat.eq_of_testBit_eq
  intro i
  rw [Nat.testBit_two_pow_sub_one]
  by_cases hi : i < n
  · rw [decide_eq_true hi]
    exact (maskL_bit x i n).2 (perm_onto h i hi)
  · rw [decide_eq_false hi]
    rw [← Bool.not_eq_true]
    intro hb
    obtain ⟨j, hj, e⟩ := (maskL_bit x i n).1 hb
    have := h.2.1 j hj
    omega

set_option maxHeartbeats 400000 in
theorem order_any (A : Option Addr) (c n : Nat) (x : List Int) (w : World) (hn : n ≤ 24) (hx : PermL n x) (hA : IntsAt w A x) :
    Calls Tryd.prog 27 #[.slice A n c, .int .i64 n] w fun e w' => e = .returned (.bool true) ∧ Below w.heap.size w w' := by
  have h1 := fun W hA => of_any A c x W (by have := hx.1; unfold big; omega) (fun j hj => by have := hx.2.1 j (by have := hx.1; omega); omega) hA
  have h2 := fun W => full_any n W (by omega)
  rw [hx.1, perm_mask hx] at h1
  have H1 := Lib.hid h1
  have H2 := Lib.hid h2
  have HA := Lib.hid hA
  clear h1 h2 hA hx
  generalize 2 ^ n - 1 = M at *
  have q := fun W => eq_set (M : Int) 0 (M : Int) 0 W
  have hg : Tryd.prog.eqGuardType Tryd.prog.depth 56 = false := by kernel_rfl
  go_enter Tryd.func27, Tryd.ntmps27
  go_wp2_with fail
  refine (H1.out _ HA.out).mono ?_
  rintro e w1 ⟨rfl, hb1⟩
  have HB1 := Lib.hid hb1
  clear hb1
  go_wp2_with fail
  refine (H2.out _).mono ?_
  rintro e w2 ⟨rfl, hb2⟩
  have HB2 := Lib.hid hb2
  clear hb2
  go_wp2
  go_ret
  exact ⟨by simp, keep_trans HB1.out HB2.out⟩

/-- What the first k items that are taken weigh, what those that are left are worth; what the first k rows cost; the first k ways. -/
def kW (I : Inst) (x : List Int) (k : Nat) : Int := sumTo k fun j => if x.getD j 0 = 1 then I.ws.getD j 0 else 0
def kC (I : Inst) (x : List Int) (k : Nat) : Int := sumTo k fun j => if x.getD j 0 = 0 then I.vs.getD j 0 else 0
def aC (I : Inst) (x : List Int) (k : Nat) : Int := sumTo k fun j => elt I j (x.getD j 0).toNat
def tC (I : Inst) (n : Nat) (x : List Int) (k : Nat) : Int := sumTo k fun j => elt I (x.getD j 0).toNat (x.getD ((j + 1) % n) 0).toNat

/-- An answer in form. -/
def Feas (I : Inst) (x : List Int) : Prop :=
  (I.kind = 1 → x.length = I.n.toNat ∧ (∀ j, j < I.n.toNat → x.getD j 0 = 0 ∨ x.getD j 0 = 1) ∧ kW I x I.n.toNat ≤ I.cap) ∧
  (I.kind ≠ 1 → PermL I.n.toNat x ∧ (I.kind = 3 → x.getD 0 0 = 0))
/-- What it costs. -/
def costOf (I : Inst) (x : List Int) : Int := if I.kind = 1 then kC I x I.n.toNat else if I.kind = 2 then aC I x I.n.toNat else tC I I.n.toNat x I.n.toNat

theorem sumTo_range {k m : Nat} {f : Nat → Int} (hk : k ≤ m) (h : ∀ j, j < m → 0 ≤ f j ∧ f j ≤ 2147483647) : 0 ≤ sumTo k f ∧ sumTo k f ≤ k * 2147483647 :=
  ⟨sumTo_nonneg fun j hj => (h j (by omega)).1, sumTo_bound fun j hj => (h j (by omega)).2⟩

theorem WF.knap {I : Inst} (h : WF I) (hk : I.kind = 1) : ∃ n : Nat, I.n = n ∧ 1 ≤ n ∧ n ≤ 64 ∧ I.ws.length = n ∧ I.vs.length = n ∧ I.cost = [] ∧ numOk I.cap ∧ ∀ j, j < n → numOk (I.ws.getD j 0) ∧ numOk (I.vs.getD j 0) := by
  obtain ⟨h1, h2, h3, h4⟩ := h
  rcases h1 with h1 | h1
  · rcases h2 with h2 | h2
    · obtain ⟨n, hn⟩ := Int.eq_ofNat_of_zero_le (show 0 ≤ I.n by omega)
      have hi := h3 hk
      exact ⟨n, hn, by omega, by omega, by omega, by omega, List.length_eq_zero_iff.1 h2.2.2.2, hi.1, fun j hj => hi.2 j (by omega)⟩
    · exact absurd hk h2.1
  · omega

theorem WF.rows {I : Inst} (h : WF I) (hk : I.kind ≠ 1) : ∃ n : Nat, I.n = n ∧ 1 ≤ n ∧ n ≤ 24 ∧ (I.kind = 2 ∨ I.kind = 3) ∧ I.cost.length = n ∧ I.cap = 0 ∧ I.ws = [] ∧ I.vs = [] ∧ (∀ r, r < n → (I.cost.getD r []).length = n) ∧ (∀ r c, r < n → c < n → numOk (elt I r c)) ∧ (I.kind = 3 → ∀ r, r < n → elt I r r = 0) := by
  obtain ⟨h1, h2, h3, h4⟩ := h
  rcases h1 with h1 | h1
  · exact absurd h1.1 hk
  · rcases h2 with h2 | h2
    · exact absurd h2.1 hk
    · obtain ⟨n, hn⟩ := Int.eq_ofNat_of_zero_le (show 0 ≤ I.n by omega)
      have hr := h4 hk
      have hl : I.cost.length = n := by omega
      have hrow : ∀ r, r < n → (I.cost.getD r []).length = n := fun r hr => by have := h2.2.2.2.2.2 r (by omega); omega
      exact ⟨n, hn, by omega, by omega, h1.1, hl, h2.2.2.1, List.length_eq_zero_iff.1 h2.2.2.2.1, List.length_eq_zero_iff.1 h2.2.2.2.2.1, hrow,
        fun r c h5 h6 => (hr r (by omega) c (by rw [hrow r h5]; exact h6)).1, fun h7 r h5 => (hr r (by omega) r (by rw [hrow r h5]; exact h5)).2 h7 rfl⟩

set_option maxHeartbeats 1000000 in
theorem knap_any (I : Inst) (hI : WF I) (hk : I.kind = 1) (v : Value) (A : Option Addr) (c : Nat) (x : List Int) (w : World) (hv : InstAt w v I) (hA : IntsAt w A x) (hx : Feas I x) :
    Calls Tryd.prog 26 #[v, .slice A x.length c] w fun e w' => e = .returned (.tuple #[.int .i64 (kC I x I.n.toNat), .int .i64 0]) ∧ Below w.heap.size w w' := by
  obtain ⟨n, hn, hn1, hn2, hw, hvl, hcost, hcap, hok⟩ := hI.knap hk
  obtain ⟨hxl, hx01, hxw⟩ := hx.1 hk
  obtain ⟨A1, c1, A2, c2, A3, c3, rfl, h1, h2, h3, h4, h5, h6, h7, h8, h9, h10⟩ := hv
  have hT : I.n.toNat = n := by omega
  rw [hT] at hxl hx01 hxw ⊢
  rw [hxl, hw, hvl, hn]
  have hfW : ∀ j, j < n → 0 ≤ (if x.getD j 0 = 1 then I.ws.getD j 0 else 0) ∧ (if x.getD j 0 = 1 then I.ws.getD j 0 else 0) ≤ 2147483647 := fun j hj => by have := (hok j hj).1; unfold numOk at this; split <;> omega
  have hfC : ∀ j, j < n → 0 ≤ (if x.getD j 0 = 0 then I.vs.getD j 0 else 0) ∧ (if x.getD j 0 = 0 then I.vs.getD j 0 else 0) ≤ 2147483647 := fun j hj => by have := (hok j hj).2; unfold numOk at this; split <;> omega
  have HFW := Lib.hid (fun k (hk : k ≤ n) => sumTo_range hk hfW)
  have HFC := Lib.hid (fun k (hk : k ≤ n) => sumTo_range hk hfC)
  have H8 := Lib.hid h8
  have H9 := Lib.hid h9
  have HA := Lib.hid hA
  have HOK := Lib.hid hok
  have HX := Lib.hid hx01
  have HXW := Lib.hid hxw
  have HXL := Lib.hid hxl
  have HWL := Lib.hid hw
  have HVL := Lib.hid hvl
  clear h1 h2 h3 h4 h5 h6 h7 h8 h9 h10 hcost hcap hok hfW hfC hxl hx01 hxw hw hvl hA hn hT hx hI hk
  go_enter Tryd.func26, Tryd.ntmps26
  go_wp2
  go_loop [6, 7, 17] (fun v6 v7 v17 => ∃ (W C : Int) (k : Nat), v6 = .int .i64 W ∧ v7 = .int .i64 C ∧ v17 = .int .i64 k ∧ k ≤ n ∧ 0 ≤ W ∧ W ≤ k * 2147483647 ∧ 0 ≤ C ∧ C ≤ k * 2147483647 ∧ Hid (W = kW I x k) ∧ Hid (C = kC I x k)) (fun _ _ v17 => n - (intOf v17).toNat)
  case atStart => exact ⟨0, 0, 0, rfl, rfl, rfl, by omega, by omega, by omega, by omega, by omega, Lib.hid rfl, Lib.hid rfl⟩
  case round =>
    obtain ⟨W, C, k, rfl, rfl, rfl, hk, b1, b2, b3, b4, HW, HC⟩ := hrel
    by_cases ck : k < n
    · obtain ⟨ad, e, hc⟩ := HA.out.at_ (j := k) (by rw [HXL.out]; exact ck)
      obtain ⟨ad1, e1, hc1⟩ := H8.out.at_ (j := k) (by rw [HWL.out]; exact ck)
      obtain ⟨ad2, e2, hc2⟩ := H9.out.at_ (j := k) (by rw [HVL.out]; exact ck)
      subst e e1 e2
      have hb := World.block_lt_of_cell? w _ hc
      have hb1 := World.block_lt_of_cell? w _ hc1
      have hb2 := World.block_lt_of_cell? w _ hc2
      have hnw := HFW.out (k + 1) (by omega)
      have hnc := HFC.out (k + 1) (by omega)
      simp only [sumTo] at hnw hnc
      have o1 := (HOK.out k ck).1
      have o2 := (HOK.out k ck).2
      unfold numOk at o1 o2
      have eW := HW.out
      have eC := HC.out
      unfold kW at eW
      unfold kC at eC
      rw [← eW] at hnw
      rw [← eC] at hnc
      have hxk := HX.out k ck
      obtain ⟨y, hy⟩ : ∃ y, x.getD k 0 = y := ⟨_, rfl⟩
      obtain ⟨ww, hww⟩ : ∃ y, I.ws.getD k 0 = y := ⟨_, rfl⟩
      obtain ⟨vv, hvv⟩ : ∃ y, I.vs.getD k 0 = y := ⟨_, rfl⟩
      have nW : kW I x (k + 1) = W + (if y = 1 then ww else 0) := by unfold kW; simp only [sumTo]; rw [← eW, hy, hww]
      have nC : kC I x (k + 1) = C + (if y = 0 then vv else 0) := by unfold kC; simp only [sumTo]; rw [← eC, hy, hvv]
      rw [hy] at hc hnw hnc hxk
      rw [hww] at hc1 hnw o1
      rw [hvv] at hc2 hnc o2
      have NW := Lib.hid nW
      have NC := Lib.hid nC
      clear eW eC nW nC hy hww hvv
      rcases hxk with rfl | rfl
      · simp at hnw hnc
        go_wp2
        go_round
        case rel => exact ⟨W, C + vv, k + 1, rfl, rfl, by go_num, by omega, by omega, by omega, by omega, by omega, Lib.hid (by rw [NW.out]; simp), Lib.hid (by rw [NC.out]; simp)⟩
        case measure => simp [intOf]; omega
      · simp at hnw hnc
        go_wp2
        go_round
        case rel => exact ⟨W + ww, C, k + 1, rfl, rfl, by go_num, by omega, by omega, by omega, by omega, by omega, Lib.hid (by rw [NW.out]; simp), Lib.hid (by rw [NC.out]; simp)⟩
        case measure => simp [intOf]; omega
    · obtain rfl : k = n := by omega
      have hcap : W ≤ I.cap := by rw [HW.out]; exact HXW.out
      go_wp2
      go_ret2
      exact ⟨by rw [← HC.out]; rfl, (Below.refl _ _).alloc (Nat.le_refl _) _⟩

theorem InstAt.load {w : World} {v : Value} {I : Inst} (h : InstAt w v I) : ∃ A1 c1 A2 c2 A3 c3, v = .agg #[.int .i64 I.kind, .int .i64 I.n, .int .i64 I.cap, .slice A1 I.ws.length c1, .slice A2 I.vs.length c2, .slice A3 I.cost.length c3] := by
  obtain ⟨A1, c1, A2, c2, A3, c3, rfl, _⟩ := h
  exact ⟨A1, c1, A2, c2, A3, c3, rfl⟩

set_option maxHeartbeats 1000000 in
theorem cost_knap (I : Inst) (hI : WF I) (hk : I.kind = 1) (v : Value) (A : Option Addr) (c : Nat) (x : List Int) (w : World) (hv : InstAt w v I) (hA : IntsAt w A x) (hx : Feas I x) :
    Calls Tryd.prog 18 #[v, .slice A x.length c] w fun e w' => e = .returned (.tuple #[.int .i64 (kC I x I.n.toNat), .int .i64 0]) ∧ Below w.heap.size w w' := by
  have hch := fun W hv => check_any I v W hv
  have hkn := fun W hv hA => knap_any I hI hk v A c x W hv hA hx
  have HCH := Lib.hid hch
  have HKN := Lib.hid hkn
  have HV := Lib.hid hv
  have HA := Lib.hid hA
  have HI := Lib.hid hI
  obtain ⟨A1, c1, A2, c2, A3, c3, rfl⟩ := hv.load
  have hk' : (I.kind == 1) = true := by simp [hk]
  clear hch hkn hv hA hx hk hI
  generalize kC I x I.n.toNat = C at *
  generalize I.ws.length = l1 at *
  generalize I.vs.length = l2 at *
  generalize I.cost.length = l3 at *
  generalize x.length = l at *
  go_enter Tryd.func18, Tryd.ntmps18
  go_wp2_with fail
  refine (HCH.out _ (HV.out.keep ((Below.refl _ _).alloc (Nat.le_refl _) _))).mono ?_
  rintro e w1 ⟨r, rfl, hr, hb1⟩
  have hr0 := hr.2 HI.out
  subst hr0
  have HB1 := Lib.hid hb1
  obtain ⟨hc1, hf1⟩ := bcell hb1
  clear hb1 hr
  go_wp2_with fail
  refine (HKN.out _ (HV.out.keep (keep_box HB1.out)) (HA.out.keep (keep_box HB1.out))).mono ?_
  rintro e w2 ⟨rfl, hb2⟩
  have HB2 := Lib.hid hb2
  clear hb2 hc1 hf1
  go_wp2
  go_ret2
  exact ⟨rfl, keep_box (keep_trans HB1.out HB2.out)⟩
end Go.Proofs.YtmfgffmlnfimcaaDoor
