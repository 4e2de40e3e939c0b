/- The walks of exact.Best, kurgantop.best, large and stands. -/
import Derived.Test.YtmfgffmlnfimcaaDoorP
import Derived.Test.YtmfgffmlnfimcaaDoorV
import Derived.BigQuiet
namespace Go.Proofs.YtmfgffmlnfimcaaDoor
open Go Go.RowKit

/-- What exact's functions take. -/
def Lim (I : Inst) : Prop := (I.kind = 1 → I.n ≤ 18) ∧ (I.kind = 3 → I.n ≤ 12)

theorem WF.kinds {I : Inst} (h : WF I) : I.kind = 1 ∨ I.kind = 2 ∨ I.kind = 3 := by
  rcases h.1 with h | h <;> omega

theorem Tells.box {I : Inst} {w : World} {o : Obj} {e : Ending} {w' : World} (h : Tells I (w.alloc o) e w') : Tells I w e w' := by
  obtain ⟨x, A, c, h1, h2, h3, h4, h5⟩ := h
  exact ⟨x, A, c, h1, h2, h3, h4, keep_box h5⟩

set_option maxHeartbeats 1000000 in
theorem exact_any (I : Inst) (hI : WF I) (hL : Lim I) (v : Value) (w : World) (hv : InstAt w v I) (hT : TabW w) : Calls Tryd.prog 20 #[v] w (Tells I w) := by
  have hb : ∀ o : Obj, Below w.heap.size w (w.alloc o) := fun o => (Below.refl _ _).alloc (Nat.le_refl _) o
  rcases hI.kinds with hk | hk | hk
  · have hc := fun W hv => check_any I v W hv
    have hx := fun W hv hT => knapsack_any I hI hk (hL.1 hk) v W hv hT
    have HC := Lib.hid hc
    have HX := Lib.hid hx
    have HI := Lib.hid hI
    have HV := Lib.hid hv
    have HT := Lib.hid hT
    have HB := Lib.hid hb
    obtain ⟨A1, c1, A2, c2, A3, c3, rfl, -⟩ := hv
    rw [hk] at HV HC HX ⊢
    clear hc hx hI hT hL hk hb
    generalize I.ws.length = l1 at *
    generalize I.vs.length = l2 at *
    generalize I.cost.length = l3 at *
    go_enter Tryd.func20, Tryd.ntmps20
    go_wp2_with fail
    refine (HC.out _ (HV.out.keep (HB.out _))).mono ?_
    rintro e w1 ⟨r, rfl, hr, hb1⟩
    have hr0 := hr.2 HI.out
    subst hr0
    have HB1 := Lib.hid hb1
    obtain ⟨hc1, hf1⟩ := bcell hb1
    clear hb1 hr
    go_wp2_with fail
    refine (HX.out _ (HV.out.keep (keep_box HB1.out)) (HT.out.keep (keep_box HB1.out))).mono ?_
    rintro e w2 ⟨x, A, c, rfl, ho, hxc, hin, hb2⟩
    have H2 := Lib.hid (And.intro ho (And.intro hxc (And.intro hin hb2)))
    clear ho hxc hin hb2 hc1 hf1
    go_wp2
    go_ret3
    exact ⟨x, A, c, rfl, H2.out.1, H2.out.2.1, H2.out.2.2.1, (keep_box HB1.out).trans (H2.out.2.2.2.mono (keep_box HB1.out).size)⟩
  · have hx := fun W hv => assignment_any I hI hk v W hv
    have HX := Lib.hid hx
    have HV := Lib.hid hv
    have HB := Lib.hid hb
    obtain ⟨A1, c1, A2, c2, A3, c3, rfl, -⟩ := hv
    rw [hk] at HV HX ⊢
    clear hx hI hT hL hk hb
    generalize I.ws.length = l1 at *
    generalize I.vs.length = l2 at *
    generalize I.cost.length = l3 at *
    go_enter Tryd.func20, Tryd.ntmps20
    go_wp2_with fail
    refine (HX.out _ (HV.out.keep (HB.out _))).mono ?_
    rintro e w2 ⟨x, A, c, rfl, ho, hxc, hin, hb2⟩
    have H2 := Lib.hid (And.intro ho (And.intro hxc (And.intro hin hb2)))
    clear ho hxc hin hb2
    go_wp2
    go_ret3
    exact ⟨x, A, c, rfl, H2.out.1, H2.out.2.1, H2.out.2.2.1, keep_box H2.out.2.2.2⟩
  · have hx := fun W hv => tour_any I hI hk (hL.2 hk) v W hv
    have HX := Lib.hid hx
    have HV := Lib.hid hv
    have HB := Lib.hid hb
    obtain ⟨A1, c1, A2, c2, A3, c3, rfl, -⟩ := hv
    rw [hk] at HV HX ⊢
    clear hx hI hT hL hk hb
    generalize I.ws.length = l1 at *
    generalize I.vs.length = l2 at *
    generalize I.cost.length = l3 at *
    go_enter Tryd.func20, Tryd.ntmps20
    go_wp2_with fail
    refine (HX.out _ (HV.out.keep (HB.out _))).mono ?_
    rintro e w2 ⟨x, A, c, rfl, ho, hxc, hin, hb2⟩
    have H2 := Lib.hid (And.intro ho (And.intro hxc (And.intro hin hb2)))
    clear ho hxc hin hb2
    go_wp2
    go_ret3
    exact ⟨x, A, c, rfl, H2.out.1, H2.out.2.1, H2.out.2.2.1, keep_box H2.out.2.2.2⟩

/-- What 'best' tells of a problem in form. -/
def TellsB (I : Inst) (w : World) (e : Ending) (w' : World) : Prop :=
  ∃ (x : List Int) (A : Option Addr) (c : Nat), e = .returned (.tuple #[.int .i64 (costOf I x), .slice A x.length c, .bool true]) ∧ Opt I x ∧ x.length ≤ c ∧ IntsAt w' A x ∧ Below w.heap.size w w'

set_option maxHeartbeats 1000000 in
theorem topbest_any (I : Inst) (hI : WF I) (hL : Lim I) (v : Value) (w : World) (hv : InstAt w v I) (hT : TabW w) : Calls Tryd.prog 10 #[v] w (TellsB I w) := by
  have hb : ∀ o : Obj, Below w.heap.size w (w.alloc o) := fun o => (Below.refl _ _).alloc (Nat.le_refl _) o
  have hn0 : (I.n == 0) = false := by
    have : I.n ≠ 0 := by rcases hI.1 with h | h <;> omega
    simp [this]
  have hc := fun A c x W hv hA hx => cost_any I hI v A c x W hv hA hx
  have hx := fun W hv hT => exact_any I hI hL v W hv hT
  have HC := Lib.hid hc
  have HX := Lib.hid hx
  have HV := Lib.hid hv
  have HT := Lib.hid hT
  have HB := Lib.hid hb
  obtain ⟨A1, c1, A2, c2, A3, c3, rfl, -⟩ := hv
  clear hc hx hI hT hL hb
  generalize I.ws.length = l1 at *
  generalize I.vs.length = l2 at *
  generalize I.cost.length = l3 at *
  generalize hN : I.n = N at hn0
  rw [hN] at HV HC HX
  clear hN
  go_enter Tryd.func10, Tryd.ntmps10
  go_wp2_with fail
  refine (HX.out _ (HV.out.keep (HB.out _)) (HT.out.keep (HB.out _))).mono ?_
  rintro e w2 ⟨x, A, c, rfl, ho, hxc, hin, hb2⟩
  have hcc := HC.out A c x w2 (HV.out.keep (keep_box hb2)) hin ho.1
  obtain ⟨C, hC⟩ : ∃ C, costOf I x = C := ⟨_, rfl⟩
  rw [hC] at hcc
  rw [hC]
  have HCO := Lib.hid hC
  have HCC := Lib.hid hcc
  clear hC hcc
  have H2 := Lib.hid (And.intro ho (And.intro hxc (And.intro hin hb2)))
  obtain ⟨hc1, hf1⟩ := bcell hb2
  clear ho hxc hin hb2
  go_wp2_with fail
  refine HCC.out.mono ?_
  rintro e w3 ⟨rfl, hb3⟩
  have HB3 := Lib.hid hb3
  clear hb3 hc1 hf1
  go_wp2
  go_ret3
  exact ⟨x, A, c, by rw [HCO.out]; rfl, H2.out.1, H2.out.2.1, H2.out.2.2.1.keep HB3.out, (keep_box H2.out.2.2.2).trans (HB3.out.mono (keep_box H2.out.2.2.2).size)⟩

theorem topbest_zero (k cap : Int) (a b c : Value) (w : World) : Calls Tryd.prog 10 #[.agg #[.int .i64 k, .int .i64 0, .int .i64 cap, a, b, c]] w fun e w' => e = .returned (.tuple #[.int .i64 0, .slice none 0 0, .bool true]) ∧ Below w.heap.size w w' := by
  go_enter Tryd.func10, Tryd.ntmps10
  go_wp2
  go_ret3
  exact ⟨rfl, (Below.refl _ _).alloc (Nat.le_refl _) _⟩

theorem stands_any (w : World) : Calls Tryd.prog 8 #[] w fun e w' => e = .returned (.bool true) ∧ Below w.heap.size w w' := by
  go_enter Tryd.func8, Tryd.ntmps8
  go_wp2
  go_ret
  exact ⟨rfl, Below.refl _ _⟩

/-- Is a problem taken by these laws? -/
def isLarge (I : Inst) : Bool := decide (I.kind = 1 ∧ I.n ≤ 14) || decide (I.kind = 2 ∧ I.n ≤ 16) || decide (I.kind = 3 ∧ I.n ≤ 9)

set_option maxHeartbeats 1000000 in
theorem large_any (I : Inst) (v : Value) (w : World) (hv : InstAt w v I) : Calls Tryd.prog 9 #[v] w fun e w' => (∃ b : Bool, e = .returned (.bool b) ∧ (b = true ↔ WF I ∧ isLarge I = true)) ∧ Below w.heap.size w w' := by
  have hb : ∀ o : Obj, Below w.heap.size w (w.alloc o) := fun o => (Below.refl _ _).alloc (Nat.le_refl _) o
  have hc := fun W hv => check_any I v W hv
  have HC := Lib.hid hc
  have HV := Lib.hid hv
  have HB := Lib.hid hb
  obtain ⟨A1, c1, A2, c2, A3, c3, rfl, -⟩ := hv
  clear hc hb
  generalize I.ws.length = l1 at *
  generalize I.vs.length = l2 at *
  generalize I.cost.length = l3 at *
  have HL := Lib.hid (show isLarge I = (decide (I.kind = 1 ∧ I.n ≤ 14) || decide (I.kind = 2 ∧ I.n ≤ 16) || decide (I.kind = 3 ∧ I.n ≤ 9)) from rfl)
  have HK := Lib.hid (fun h : WF I => h.kinds)
  generalize hN : I.n = N at *
  generalize hK : I.kind = K at *
  clear hN hK
  go_enter Tryd.func9, Tryd.ntmps9
  go_wp2_with fail
  refine (HC.out _ (HV.out.keep (HB.out _))).mono ?_
  rintro e w1 ⟨r, rfl, hr, hb1⟩
  have HB1 := Lib.hid hb1
  obtain ⟨hc1, hf1⟩ := bcell hb1
  have HR := Lib.hid hr
  clear hb1 hr
  by_cases hr0 : r = 0
  · subst hr0
    have HWF := Lib.hid (HR.out.1 rfl)
    clear HR
    rcases HK.out HWF.out with e | e | e
    · subst e
      by_cases hn : N ≤ 14
      · go_wp2
        go_ret
        exact ⟨⟨_, rfl, by rw [HL.out]; simp [HWF.out]; omega⟩, keep_box HB1.out⟩
      · go_wp2
        go_ret
        exact ⟨⟨_, rfl, by rw [HL.out]; simp [HWF.out]⟩, keep_box HB1.out⟩
    · subst e
      by_cases hn : N ≤ 16
      · go_wp2
        go_ret
        exact ⟨⟨_, rfl, by rw [HL.out]; simp [HWF.out]; omega⟩, keep_box HB1.out⟩
      · go_wp2
        go_ret
        exact ⟨⟨_, rfl, by rw [HL.out]; simp [HWF.out]⟩, keep_box HB1.out⟩
    · subst e
      by_cases hn : N ≤ 9
      · go_wp2
        go_ret
        exact ⟨⟨_, rfl, by rw [HL.out]; simp [HWF.out]; omega⟩, keep_box HB1.out⟩
      · go_wp2
        go_ret
        exact ⟨⟨_, rfl, by rw [HL.out]; simp [HWF.out]⟩, keep_box HB1.out⟩
  · have hr0' : (r == 0) = false := by simp; exact hr0
    go_wp2
    go_ret
    exact ⟨⟨_, rfl, ⟨fun h => (by cases h), fun h => absurd (HR.out.2 h.1) hr0⟩⟩, keep_box HB1.out⟩
end Go.Proofs.YtmfgffmlnfimcaaDoor
