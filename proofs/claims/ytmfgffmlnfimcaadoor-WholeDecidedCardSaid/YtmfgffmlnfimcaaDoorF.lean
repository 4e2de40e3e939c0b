/- The walks of value.Cost at an assignment and at a tour; exact.takes and exact.told. -/
import Derived.Test.YtmfgffmlnfimcaaDoorE
namespace Go.Proofs.YtmfgffmlnfimcaaDoor
open Go Go.RowKit

set_option maxHeartbeats 2000000 in
theorem cost_assign (I : Inst) (hI : WF I) (hk : I.kind = 2) (v : Value) (A : Option Addr) (c : Nat) (x : List Int) (w : World) (hv : InstAt w v I) (hA : IntsAt w A x) (hx : Feas I x) :
    Calls Tryd.prog 18 #[v, .slice A x.length c] w fun e w' => e = .returned (.tuple #[.int .i64 (aC I x I.n.toNat), .int .i64 0]) ∧ Below w.heap.size w w' := by
  obtain ⟨n, hn, hn1, hn2, -, hcl, -, -, -, hrl, hok, -⟩ := hI.rows (by omega)
  obtain ⟨hp, -⟩ := hx.2 (by omega)
  obtain ⟨kind, N, cap, ws, vs, cost⟩ := I
  dsimp only at hk hn hp hcl hrl hok ⊢
  subst hk hn
  rw [Int.toNat_natCast] at hp ⊢
  have hch := fun W hv => check_any ⟨2, n, cap, ws, vs, cost⟩ v W hv
  have hor := fun W hA => order_any A c n x W hn2 hp hA
  rw [hp.1]
  have HCH := Lib.hid hch
  have HOR := Lib.hid hor
  have HV := Lib.hid hv
  have HA := Lib.hid hA
  have HI := Lib.hid hI
  have HP := Lib.hid hp
  have HRL := Lib.hid hrl
  have HOK := Lib.hid hok
  have HCL := Lib.hid hcl
  obtain ⟨A1, c1, A2, c2, A3, c3, rfl, -, -, -, -, -, -, -, -, -, h10⟩ := hv
  dsimp only at h10 hcl HV HCH ⊢
  have H10 := Lib.hid h10
  have hsum : ∀ k, k ≤ n → 0 ≤ aC ⟨2, n, cap, ws, vs, cost⟩ x k ∧ aC ⟨2, n, cap, ws, vs, cost⟩ x k ≤ k * 2147483647 := fun k hk => sumTo_range hk fun j hj => hok j _ hj (by have := hp.2.1 j hj; omega)
  have HSUM := Lib.hid hsum
  clear hch hor hA hx hI hp hrl hok h10 hsum
  rw [hcl] at HV HCH ⊢
  clear hcl
  go_enter Tryd.func18, Tryd.ntmps18
  go_wp2_with fail
  refine (HCH.out _ (HV.out.keep ((Below.refl _ _).alloc (Nat.le_refl _) _))).mono ?_
  rintro e w1 ⟨r, rfl, hr, hb1⟩
  have hr0 := hr.2 HI.out
  subst hr0
  have HB1 := Lib.hid hb1
  obtain ⟨hc1, hf1⟩ := bcell hb1
  clear hb1 hr
  go_wp2_with fail
  refine (HOR.out _ (HA.out.keep (keep_box HB1.out))).mono ?_
  rintro e w2 ⟨rfl, hb2⟩
  have hbb := keep_trans HB1.out hb2
  have HB2 := Lib.hid hbb
  clear hb2 hc1 hf1
  obtain ⟨hc2, hf2⟩ := bcell hbb
  clear hbb
  go_wp2
  go_loop [7, 44] (fun v7 v44 => ∃ (S : Int) (k : Nat), v7 = .int .i64 S ∧ v44 = .int .i64 k ∧ k ≤ n ∧ 0 ≤ S ∧ S ≤ k * 2147483647 ∧ Hid (S = aC ⟨2, n, cap, ws, vs, cost⟩ x k)) (fun _ v44 => n - (intOf v44).toNat)
  case atStart => exact ⟨0, 0, rfl, rfl, by omega, by omega, by omega, Lib.hid rfl⟩
  case round =>
    obtain ⟨S, k, rfl, rfl, hk, b1, b2, HS⟩ := hrel
    by_cases ck : k < n
    · obtain ⟨ad, e, hc⟩ := HA.out.at_ (j := k) (by rw [HP.out.1]; exact ck)
      obtain ⟨y, hy⟩ : ∃ y : Nat, x.getD k 0 = (y : Int) := Int.eq_ofNat_of_zero_le (HP.out.2.1 k ck).1
      have hyn : y < n := by have := (HP.out.2.1 k ck).2; omega
      obtain ⟨ad1, B, cc, e1, hc1, hcc, hB⟩ := H10.out.at_ (j := k) (by rw [HCL.out]; exact ck)
      obtain ⟨ad2, e2, hcy⟩ := hB.at_ (j := y) (by rw [HRL.out k ck]; exact hyn)
      rw [HRL.out k ck] at hc1 hcc
      obtain ⟨z, hz⟩ : ∃ z, (cost.getD k []).getD y 0 = z := ⟨_, rfl⟩
      have hel : elt ⟨2, n, cap, ws, vs, cost⟩ k y = z := hz
      rw [hz] at hcy
      rw [hy] at hc
      subst e e1 e2
      have o1 := HOK.out k y ck hyn
      rw [hel] at o1
      unfold numOk at o1
      have g := HSUM.out (k + 1) (by omega)
      have ga : aC ⟨2, n, cap, ws, vs, cost⟩ x (k + 1) = S + z := by unfold aC; simp only [sumTo]; rw [HS.out, hy, Int.toNat_natCast, hel]; rfl
      rw [ga] at g
      have GA := Lib.hid ga
      have hbw := HB2.out
      replace hc := cell_keep (keep_box hbw) hc
      replace hc1 := cell_keep (keep_box hbw) hc1
      replace hcy := cell_keep (keep_box hbw) hcy
      clear hbw hel hz hy ga hB
      go_wp2
      go_round
      case rel => exact ⟨S + z, k + 1, rfl, by go_num, by omega, by omega, by omega, Lib.hid GA.out.symm⟩
      case measure => simp [intOf]; omega
    · obtain rfl : k = n := by omega
      go_wp2
      go_ret2
      exact ⟨by rw [← HS.out]; rfl, keep_box HB2.out⟩

set_option maxHeartbeats 2000000 in
theorem cost_tour (I : Inst) (hI : WF I) (hk : I.kind = 3) (v : Value) (A : Option Addr) (c : Nat) (x : List Int) (w : World) (hv : InstAt w v I) (hA : IntsAt w A x) (hx : Feas I x) :
    Calls Tryd.prog 18 #[v, .slice A x.length c] w fun e w' => e = .returned (.tuple #[.int .i64 (tC I I.n.toNat x I.n.toNat), .int .i64 0]) ∧ Below w.heap.size w w' := by
  obtain ⟨n, hn, hn1, hn2, -, hcl, -, -, -, hrl, hok, -⟩ := hI.rows (by omega)
  obtain ⟨hp, hx0⟩ := hx.2 (by omega)
  obtain ⟨kind, N, cap, ws, vs, cost⟩ := I
  dsimp only at hk hn hp hcl hrl hok hx0 ⊢
  subst hk hn
  rw [Int.toNat_natCast] at hp ⊢
  have hch := fun W hv => check_any ⟨3, n, cap, ws, vs, cost⟩ v W hv
  have hor := fun W hA => order_any A c n x W hn2 hp hA
  rw [hp.1]
  have HCH := Lib.hid hch
  have HOR := Lib.hid hor
  have HV := Lib.hid hv
  have HA := Lib.hid hA
  have HI := Lib.hid hI
  have HP := Lib.hid hp
  have HRL := Lib.hid hrl
  have HOK := Lib.hid hok
  have HCL := Lib.hid hcl
  have HX0 := Lib.hid (hx0 rfl)
  obtain ⟨A1, c1, A2, c2, A3, c3, rfl, -, -, -, -, -, -, -, -, -, h10⟩ := hv
  dsimp only at h10 hcl HV HCH ⊢
  have H10 := Lib.hid h10
  have hmod : ∀ k, (k + 1) % n < n := fun k => Nat.mod_lt _ (by omega)
  have hsum : ∀ k, k ≤ n → 0 ≤ tC ⟨3, n, cap, ws, vs, cost⟩ n x k ∧ tC ⟨3, n, cap, ws, vs, cost⟩ n x k ≤ k * 2147483647 := fun k hk => sumTo_range hk fun j hj => hok _ _ (by have := hp.2.1 j hj; omega) (by have := hp.2.1 _ (hmod j); omega)
  have HSUM := Lib.hid hsum
  have HMOD := Lib.hid hmod
  clear hch hor hA hx hI hp hrl hok h10 hsum hx0 hmod
  rw [hcl] at HV HCH ⊢
  clear hcl
  go_enter Tryd.func18, Tryd.ntmps18
  go_wp2_with fail
  refine (HCH.out _ (HV.out.keep ((Below.refl _ _).alloc (Nat.le_refl _) _))).mono ?_
  rintro e w1 ⟨r, rfl, hr, hb1⟩
  have hr0 := hr.2 HI.out
  subst hr0
  have HB1 := Lib.hid hb1
  obtain ⟨hc1, hf1⟩ := bcell hb1
  clear hb1 hr
  go_wp2_with fail
  refine (HOR.out _ (HA.out.keep (keep_box HB1.out))).mono ?_
  rintro e w2 ⟨rfl, hb2⟩
  have hbb := keep_trans HB1.out hb2
  have HB2 := Lib.hid hbb
  clear hb2 hc1 hf1
  obtain ⟨hc2, hf2⟩ := bcell hbb
  obtain ⟨ad0, e0, hc0⟩ := HA.out.at_ (j := 0) (by rw [HP.out.1]; omega)
  subst e0
  replace hc0 := cell_keep (keep_box hbb) hc0
  rw [HX0.out] at hc0
  have hc0' : w2.cell? ad0 = some (.int .i64 0) := hc0
  clear hbb
  go_wp2
  clear hc0 hc0'
  go_loopg [7, 44] n (fun g v7 v44 wr => ∃ (S : Int) (k : Nat), v7 = .int .i64 S ∧ v44 = .int .i64 k ∧ k + g = n ∧ 0 ≤ S ∧ S ≤ k * 2147483647 ∧ Hid (S = tC ⟨3, n, cap, ws, vs, cost⟩ n x k) ∧ Hid (∃ q, wr = w2.drewN q))
  case atStart => exact ⟨0, 0, rfl, rfl, by omega, by omega, by omega, Lib.hid rfl, Lib.hid ⟨0, rfl⟩⟩
  case round =>
    obtain ⟨S, k, rfl, rfl, hk, b1, b2, HS, HQ⟩ := hrel
    obtain ⟨q0, hq0⟩ := HQ.out
    subst hq0
    by_cases ck : k < n
    · obtain ⟨ad, e, hc⟩ := HA.out.at_ (j := k) (by rw [HP.out.1]; exact ck)
      obtain ⟨y, hy⟩ : ∃ y : Nat, x.getD k 0 = (y : Int) := Int.eq_ofNat_of_zero_le (HP.out.2.1 k ck).1
      have hyn : y < n := by have := (HP.out.2.1 k ck).2; omega
      have hmn := HMOD.out k
      obtain ⟨m, hm⟩ : ∃ m, (k + 1) % n = m := ⟨_, rfl⟩
      rw [hm] at hmn
      have hmi : ((k : Int) + 1) % (n : Int) = (m : Int) := by rw [← hm]; simp
      obtain ⟨adm, em, hcm⟩ := HA.out.at_ (j := m) (by rw [HP.out.1]; exact hmn)
      obtain ⟨y2, hy2⟩ : ∃ y : Nat, x.getD m 0 = (y : Int) := Int.eq_ofNat_of_zero_le (HP.out.2.1 m hmn).1
      have hyn2 : y2 < n := by have := (HP.out.2.1 m hmn).2; omega
      obtain ⟨ad1, B, cc, e1, hc1, hcc, hB⟩ := H10.out.at_ (j := y) (by rw [HCL.out]; exact hyn)
      obtain ⟨ad2, e2, hcy⟩ := hB.at_ (j := y2) (by rw [HRL.out y hyn]; exact hyn2)
      rw [HRL.out y hyn] at hc1 hcc
      obtain ⟨z, hz⟩ : ∃ z, (cost.getD y []).getD y2 0 = z := ⟨_, rfl⟩
      have hel : elt ⟨3, n, cap, ws, vs, cost⟩ y y2 = z := hz
      rw [hz] at hcy
      rw [hy] at hc
      rw [hy2] at hcm
      cases e
      cases em
      subst e1 e2
      have o1 := HOK.out y y2 hyn hyn2
      rw [hel] at o1
      unfold numOk at o1
      have g := HSUM.out (k + 1) (by omega)
      have ga : tC ⟨3, n, cap, ws, vs, cost⟩ n x (k + 1) = S + z := by unfold tC; simp only [sumTo]; rw [HS.out, hm, hy, hy2, Int.toNat_natCast, Int.toNat_natCast, hel]; rfl
      rw [ga] at g
      have GA := Lib.hid ga
      have hbw := HB2.out
      replace hc := cell_keep (keep_box hbw) hc
      replace hcm := cell_keep (keep_box hbw) hcm
      replace hc1 := cell_keep (keep_box hbw) hc1
      replace hcy := cell_keep (keep_box hbw) hcy
      have hm2 : (m : Int) < (n : Int) := by omega
      have hm3 : (y : Int) < (n : Int) := by omega
      have hm4 : (y2 : Int) < (n : Int) := by omega
      clear hbw hel hz hy hy2 ga hB hm
      go_wp2
      go_quiet (fail)
      all_goals go_wp2
      go_roundg (gk - 1)
      case measure => omega
      case rel => exact ⟨S + z, k + 1, rfl, by go_num, by omega, by omega, by omega, Lib.hid GA.out.symm, Lib.hid ⟨_, rfl⟩⟩
    · obtain rfl : k = n := by omega
      go_wp2
      go_ret2
      exact ⟨by rw [← HS.out]; rfl, keep_box (below_drewN HB2.out q0)⟩

/-- value.Cost: what an answer in form costs. -/
theorem cost_any (I : Inst) (hI : WF I) (v : Value) (A : Option Addr) (c : Nat) (x : List Int) (w : World) (hv : InstAt w v I) (hA : IntsAt w A x) (hx : Feas I x) :
    Calls Tryd.prog 18 #[v, .slice A x.length c] w fun e w' => e = .returned (.tuple #[.int .i64 (costOf I x), .int .i64 0]) ∧ Below w.heap.size w w' := by
  by_cases h1 : I.kind = 1
  · rw [show costOf I x = kC I x I.n.toNat by unfold costOf; rw [if_pos h1]]
    exact cost_knap I hI h1 v A c x w hv hA hx
  · by_cases h2 : I.kind = 2
    · rw [show costOf I x = aC I x I.n.toNat by unfold costOf; rw [if_neg h1, if_pos h2]]
      exact cost_assign I hI h2 v A c x w hv hA hx
    · rw [show costOf I x = tC I I.n.toNat x I.n.toNat by unfold costOf; rw [if_neg h1, if_neg h2]]
      exact cost_tour I hI (by obtain ⟨_, _, _, _, h, _⟩ := hI.rows h1; exact h.resolve_left h2) v A c x w hv hA hx

set_option maxHeartbeats 1000000 in
theorem takes_any (I : Inst) (hI : WF I) (v : Value) (w : World) (hv : InstAt w v I) (hs : (I.kind = 1 → I.n ≤ 18) ∧ (I.kind = 3 → I.n ≤ 12)) :
    Calls Tryd.prog 36 #[v, .int .i64 I.kind] w fun e w' => e = .returned (.int .i64 0) ∧ Below w.heap.size w w' := by
  have HCH := Lib.hid (fun W hv => check_any I v W hv)
  have HV := Lib.hid hv
  have HI := Lib.hid hI
  have HS := Lib.hid hs
  have hkk : I.kind = 1 ∨ I.kind = 2 ∨ I.kind = 3 := by rcases hI.1 with h | h <;> omega
  obtain ⟨A1, c1, A2, c2, A3, c3, rfl⟩ := hv.load
  clear hv hI hs
  generalize I.ws.length = l1 at *
  generalize I.vs.length = l2 at *
  generalize I.cost.length = l3 at *
  have HK := Lib.hid hkk
  clear hkk
  have h1 : (I.kind == 1) = true → I.n ≤ 18 := fun h => HS.out.1 (by simpa using h)
  have h3 : (I.kind == 3) = true → I.n ≤ 12 := fun h => HS.out.2 (by simpa using h)
  have hne : (I.kind != I.kind) = false := by simp
  generalize I.kind = kd at *
  have H1 := Lib.hid h1
  have H3 := Lib.hid h3
  clear h1 h3
  rcases hq1 : kd == 1 with _ | _
  · rcases hq3 : kd == 3 with _ | _
    · go_enter Tryd.func36, Tryd.ntmps36
      go_wp2_with fail
      refine (HCH.out _ (HV.out.keep ((Below.refl _ _).alloc (Nat.le_refl _) _))).mono ?_
      rintro e w1 ⟨r, rfl, hr, hb1⟩
      have hr0 := hr.2 HI.out
      subst hr0
      have HB1 := Lib.hid hb1
      obtain ⟨hc1, hf1⟩ := bcell hb1
      clear hb1 hr
      go_wp2
      go_ret
      exact ⟨rfl, keep_box HB1.out⟩
    · have hn := H3.out hq3
      go_enter Tryd.func36, Tryd.ntmps36
      go_wp2_with fail
      refine (HCH.out _ (HV.out.keep ((Below.refl _ _).alloc (Nat.le_refl _) _))).mono ?_
      rintro e w1 ⟨r, rfl, hr, hb1⟩
      have hr0 := hr.2 HI.out
      subst hr0
      have HB1 := Lib.hid hb1
      obtain ⟨hc1, hf1⟩ := bcell hb1
      clear hb1 hr
      go_wp2
      go_ret
      exact ⟨rfl, keep_box HB1.out⟩
  · have hn := H1.out hq1
    have hq3 : (kd == 3) = false := by
      have : kd = 1 := by simpa using hq1
      subst this; rfl
    go_enter Tryd.func36, Tryd.ntmps36
    go_wp2_with fail
    refine (HCH.out _ (HV.out.keep ((Below.refl _ _).alloc (Nat.le_refl _) _))).mono ?_
    rintro e w1 ⟨r, rfl, hr, hb1⟩
    have hr0 := hr.2 HI.out
    subst hr0
    have HB1 := Lib.hid hb1
    obtain ⟨hc1, hf1⟩ := bcell hb1
    clear hb1 hr
    go_wp2
    go_ret
    exact ⟨rfl, keep_box HB1.out⟩

set_option maxHeartbeats 1000000 in
theorem told_any (I : Inst) (hI : WF I) (v : Value) (A : Option Addr) (c : Nat) (x : List Int) (w : World) (hv : InstAt w v I) (hA : IntsAt w A x) (hx : Feas I x) :
    Calls Tryd.prog 39 #[v, .slice A x.length c] w fun e w' => e = .returned (.tuple #[.slice A x.length c, .int .i64 (costOf I x), .int .i64 0]) ∧ Below w.heap.size w w' := by
  have HC := Lib.hid (fun W hv hA => cost_any I hI v A c x W hv hA hx)
  have HV := Lib.hid hv
  have HA := Lib.hid hA
  obtain ⟨A1, c1, A2, c2, A3, c3, rfl⟩ := hv.load
  clear hv hI hA hx
  generalize I.ws.length = l1 at *
  generalize I.vs.length = l2 at *
  generalize I.cost.length = l3 at *
  generalize x.length = l at *
  generalize costOf I x = C at *
  go_enter Tryd.func39, Tryd.ntmps39
  go_wp2_with fail
  refine (HC.out _ (HV.out.keep ((Below.refl _ _).alloc (Nat.le_refl _) _)) (HA.out.keep ((Below.refl _ _).alloc (Nat.le_refl _) _))).mono ?_
  rintro e w1 ⟨rfl, hb1⟩
  have HB1 := Lib.hid hb1
  clear hb1
  go_wp2
  go_ret3
  exact ⟨rfl, keep_box HB1.out⟩
end Go.Proofs.YtmfgffmlnfimcaaDoor
