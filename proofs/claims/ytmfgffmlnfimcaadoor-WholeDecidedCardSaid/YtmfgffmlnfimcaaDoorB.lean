/- The walks of inst.number, size, items, rows, shape and Check. -/
import Derived.Test.YtmfgffmlnfimcaaDoorProg
import Derived.Test.YtmfgffmlnfimcaaDoorA
import Derived.Deep.QuietTactic
import Derived.BigQuiet
import Derived.Deep.DeepCutAuto
import Derived.Deep.CutBlock
import Derived.Outline
import Derived.Lib.Hide
namespace Go.Proofs.YtmfgffmlnfimcaaDoor
open Go Go.RowKit

/-- What a call that only makes blocks answers, where the answer is a number that says yes by 0. -/
def Says (p : Prop) (w : World) (e : Ending) (w' : World) : Prop := ∃ r : Int, e = .returned (.int .i64 r) ∧ (r = 0 ↔ p) ∧ Below w.heap.size w w'

theorem number_any (n : Int) (w : World) : Calls Tryd.prog 33 #[.int .i64 n] w fun e w' => ∃ r : Int, e = .returned (.int .i64 r) ∧ (r = 0 ↔ numOk n) ∧ w = w' := by
  by_cases h0 : n < 0
  · go_enter Tryd.func33, Tryd.ntmps33
    go_wp2
    go_ret
    exact ⟨_, rfl, by unfold numOk; omega, rfl⟩
  · by_cases h1 : n ≤ 2147483647
    · go_enter Tryd.func33, Tryd.ntmps33
      go_wp2
      go_ret
      exact ⟨_, rfl, by unfold numOk; omega, rfl⟩
    · go_enter Tryd.func33, Tryd.ntmps33
      go_wp2
      go_ret
      exact ⟨_, rfl, by unfold numOk; omega, rfl⟩

theorem size_any (kind n cap : Int) (A1 A2 A3 : Option Addr) (l1 c1 l2 c2 l3 c3 : Nat) (w : World) :
    Calls Tryd.prog 21 #[.agg #[.int .i64 kind, .int .i64 n, .int .i64 cap, .slice A1 l1 c1, .slice A2 l2 c2, .slice A3 l3 c3]] w (Says (sizeOk kind n) w) := by
  go_enter Tryd.func21, Tryd.ntmps21
  go_wp2
  all_goals
    go_ret
    refine ⟨_, rfl, ?_, (Below.refl _ _).alloc (Nat.le_refl _) _⟩
    first
      | exact iff_of_true rfl (by unfold sizeOk; simp only [beq_iff_eq, beq_eq_false_iff_ne, ne_eq] at *; omega)
      | exact iff_of_false (by decide) (by unfold sizeOk; simp only [beq_iff_eq, beq_eq_false_iff_ne, ne_eq] at *; omega)

/-- What is known while the items are gone through. -/
def ItemsSo (I : Inst) (k : Nat) (e : Int) : Prop :=
  (e = 0 → numOk I.cap ∧ ∀ j, j < k → numOk (I.ws.getD j 0) ∧ numOk (I.vs.getD j 0)) ∧ (e ≠ 0 → ¬ itemsOk I)

theorem ItemsSo.step {I : Inst} {k : Nat} {e e1 e2 : Int} (h : ItemsSo I k e) (h0 : e = 0) (hk : k < I.n.toNat) (h1 : e1 = 0 ↔ numOk (I.ws.getD k 0)) (h2 : e1 = 0 → (e2 = 0 ↔ numOk (I.vs.getD k 0))) (h3 : e1 ≠ 0 → e2 = e1) : ItemsSo I (k + 1) e2 := by
  have hh := h.1 h0
  by_cases c1 : e1 = 0
  · refine ⟨fun c2 => ⟨hh.1, fun j hj => ?_⟩, fun c2 hi => c2 ((h2 c1).2 (hi.2 k hk).2)⟩
    by_cases c3 : j = k
    · subst c3
      exact ⟨h1.1 c1, (h2 c1).1 c2⟩
    · exact hh.2 j (by omega)
  · have := h3 c1
    refine ⟨fun c2 => absurd (by omega) c1, fun _ hi => c1 (h1.2 (hi.2 k hk).1)⟩

set_option maxHeartbeats 400000 in
theorem items_any (I : Inst) (A1 A2 A3 : Option Addr) (c1 c2 l3 c3 : Nat) (w : World) (hn : 0 ≤ I.n) (hw : I.ws.length = I.n) (hv : I.vs.length = I.n) (hb : I.ws.length ≤ big) (h1 : IntsAt w A1 I.ws) (h2 : IntsAt w A2 I.vs) :
    Calls Tryd.prog 23 #[.agg #[.int .i64 I.kind, .int .i64 I.n, .int .i64 I.cap, .slice A1 I.ws.length c1, .slice A2 I.vs.length c2, .slice A3 l3 c3]] w (Says (itemsOk I) w) := by
  obtain ⟨n, hN⟩ : ∃ n : Nat, I.n = n := Int.eq_ofNat_of_zero_le hn
  have Hw : I.ws.length = n := by omega
  have Hv : I.vs.length = n := by omega
  have HT : I.n.toNat = n := by omega
  rw [Hw, Hv, hN]
  have hbn : n ≤ 17592186044000 := by unfold big at hb; omega
  have HN := Lib.hid HT
  have HW := Lib.hid Hw
  have HV := Lib.hid Hv
  have H1 := Lib.hid h1
  have H2 := Lib.hid h2
  clear hN Hw Hv h1 h2 hw hv hn hb HT
  go_enter Tryd.func23, Tryd.ntmps23
  go_wp2_with (go_at_call 33; refine (number_any _ _).mono ?_; rintro e w' ⟨e0, rfl, he0, rfl⟩; have He0 := Lib.hid he0; clear he0)
  go_loop [3, 4] (fun v3 v4 => ∃ (e : Int) (k : Nat), v3 = .int .i64 e ∧ v4 = .int .i64 k ∧ k ≤ n ∧ Hid (ItemsSo I k e)) (fun _ v4 => n - (intOf v4).toNat)
  case atStart => exact ⟨e0, 0, rfl, rfl, Nat.zero_le _, Lib.hid ⟨fun h => ⟨He0.out.1 h, fun j hj => by omega⟩, fun h hi => h (He0.out.2 hi.1)⟩⟩
  case round =>
    obtain ⟨e, k, rfl, rfl, hk, HI⟩ := hrel
    by_cases ck : k < n
    · by_cases ce : e = 0
      · obtain ⟨ad1, e1, hc1⟩ := H1.out.at_ (j := k) (by rw [HW.out]; exact ck)
        obtain ⟨ad2, e2, hc2⟩ := H2.out.at_ (j := k) (by rw [HV.out]; exact ck)
        subst e1 e2
        subst ce
        have hb1 := World.block_lt_of_cell? w _ hc1
        have hb2 := World.block_lt_of_cell? w _ hc2
        go_wp2_with fail
        refine (number_any _ _).mono ?_
        rintro e w' ⟨e1, rfl, he1, rfl⟩
        have He1 := Lib.hid he1
        clear he1
        by_cases cz : e1 = 0
        · have cz' : (e1 == 0) = true := by simp [cz]
          have CZ := Lib.hid cz
          clear cz
          go_wp2_with fail
          refine (number_any _ _).mono ?_
          rintro e w' ⟨e2, rfl, he2, rfl⟩
          have He2 := Lib.hid he2
          clear he2
          go_wp2
          go_round
          case rel => exact ⟨e2, k + 1, rfl, by go_num, by omega, Lib.hid (HI.out.step rfl (by rw [HN.out]; exact ck) He1.out (fun _ => He2.out) (fun h => absurd CZ.out h))⟩
          case measure => simp [intOf]; omega
        · have cz' : (e1 == 0) = false := by simp [cz]
          have CZ := Lib.hid cz
          clear cz
          go_wp2
          go_round
          case rel => exact ⟨e1, k + 1, rfl, by go_num, by omega, Lib.hid (HI.out.step (e1 := e1) (e2 := e1) rfl (by rw [HN.out]; exact ck) He1.out (fun h => absurd h CZ.out) (fun _ => rfl))⟩
          case measure => simp [intOf]; omega
      · have ce' : (e == 0) = false := by simp [ce]
        go_wp2
        go_ret
        exact ⟨_, rfl, ⟨fun h => absurd h ce, fun h => absurd h (HI.out.2 ce)⟩, (Below.refl _ _).alloc (Nat.le_refl _) _⟩
    · go_wp2
      go_ret
      obtain rfl : k = n := by omega
      refine ⟨_, rfl, ⟨fun h => ?_, fun h => ?_⟩, (Below.refl _ _).alloc (Nat.le_refl _) _⟩
      · have := HI.out.1 h
        exact ⟨this.1, by rw [HN.out]; exact this.2⟩
      · exact Decidable.byContradiction fun h0 => HI.out.2 h0 h

def elt (I : Inst) (r c : Nat) : Int := (I.cost.getD r []).getD c 0
def cellOk (I : Inst) (r c : Nat) : Prop := numOk (elt I r c) ∧ (I.kind = 3 → r = c → elt I r c = 0)
def rowOk (I : Inst) (r m : Nat) : Prop := ∀ c, c < m → cellOk I r c
def rowsSo (I : Inst) (m : Nat) : Prop := ∀ r, r < m → rowOk I r (I.cost.getD r []).length
theorem rowsSo_all (I : Inst) : rowsSo I I.cost.length ↔ rowsOk I := Iff.rfl
theorem rowOk.step {I : Inst} {r c : Nat} (h : rowOk I r c) (h1 : cellOk I r c) : rowOk I r (c + 1) := by
  intro j hj
  by_cases e : j = c
  · subst e; exact h1
  · exact h j (by omega)
theorem rowsSo.step {I : Inst} {r : Nat} (h : rowsSo I r) (h1 : rowOk I r (I.cost.getD r []).length) : rowsSo I (r + 1) := by
  intro j hj
  by_cases e : j = r
  · subst e; exact h1
  · exact h j (by omega)

set_option maxHeartbeats 1000000 in
theorem rows_any (I : Inst) (A1 A2 A3 : Option Addr) (l1 c1 l2 c2 c3 : Nat) (w : World) (hb : I.cost.length ≤ big) (hr : ∀ r, (I.cost.getD r []).length ≤ big) (h3 : RowsAt w A3 I.cost) :
    Calls Tryd.prog 24 #[.agg #[.int .i64 I.kind, .int .i64 I.n, .int .i64 I.cap, .slice A1 l1 c1, .slice A2 l2 c2, .slice A3 I.cost.length c3]] w (Says (rowsOk I) w) := by
  obtain ⟨m, hm⟩ : ∃ m, I.cost.length = m := ⟨_, rfl⟩
  rw [hm]
  have hbm : m ≤ 17592186044000 := by unfold big at hb; omega
  have HM := Lib.hid hm
  have H3 := Lib.hid h3
  have HR := Lib.hid hr
  clear hm h3 hb hr
  go_enter Tryd.func24, Tryd.ntmps24
  go_wp2
  go_loop [11] (fun v11 => ∃ (r : Nat), v11 = .int .i64 r ∧ r ≤ m ∧ Hid (rowsSo I r)) (fun v11 => m - (intOf v11).toNat)
  case atStart => exact ⟨0, rfl, Nat.zero_le _, Lib.hid (fun r h => absurd h (by omega))⟩
  case round =>
    obtain ⟨r, rfl, hr, HI⟩ := hrel
    by_cases cr : r < m
    · obtain ⟨ad, B, c, e1, hc1, hcc, hB⟩ := H3.out.at_ (j := r) (by rw [HM.out]; exact cr)
      obtain ⟨xs, hxs⟩ : ∃ xs, I.cost.getD r [] = xs := ⟨_, rfl⟩
      rw [hxs] at hc1 hcc hB
      have hlx : xs.length ≤ 17592186044000 := by have := HR.out r; rw [hxs] at this; unfold big at this; omega
      have HX := Lib.hid hxs
      have HB := Lib.hid hB
      clear hxs hB
      subst e1
      have hb1 := World.block_lt_of_cell? w _ hc1
      go_wp2
      go_loop [18] (fun v18 => ∃ (c : Nat), v18 = .int .i64 c ∧ c ≤ xs.length ∧ Hid (rowOk I r c)) (fun v18 => xs.length - (intOf v18).toNat)
      case atStart => exact ⟨0, rfl, Nat.zero_le _, Lib.hid (fun r h => absurd h (by omega))⟩
      case round =>
        obtain ⟨c', rfl, hc', HJ⟩ := hrel
        by_cases cc : c' < xs.length
        · obtain ⟨ad2, e2, hc2⟩ := HB.out.at_ (j := c') cc
          obtain ⟨x, hx⟩ : ∃ x, xs.getD c' 0 = x := ⟨_, rfl⟩
          rw [hx] at hc2
          have hel : elt I r c' = x := by unfold elt; rw [HX.out, hx]
          have HE := Lib.hid hel
          clear hx hel
          subst e2
          have hb2 := World.block_lt_of_cell? w _ hc2
          go_wp2_with fail
          refine (number_any _ _).mono ?_
          rintro e w' ⟨e1, rfl, he1, rfl⟩
          have He1 := Lib.hid he1
          clear he1
          by_cases cz : e1 = 0
          · have cz' : (e1 == 0) = true := by simp [cz]
            have cz'' : (e1 != 0) = false := by simp [cz]
            have hnum := He1.out.1 cz
            clear cz
            have HN := Lib.hid hnum
            clear hnum
            by_cases k3 : I.kind = 3
            · have k3' : (I.kind == 3) = true := by simp [k3]
              have K3 := Lib.hid k3
              clear k3
              by_cases k4 : r = c'
              · have k4' : ((r : Int) == (c' : Int)) = true := by simp [k4]
                have K4 := Lib.hid k4
                clear k4
                by_cases k5 : x = 0
                · have k5' : (x != 0) = false := by simp [k5]
                  have K5 := Lib.hid k5
                  clear k5
                  go_wp2
                  go_round
                  case rel => exact ⟨c' + 1, by go_num, by omega, Lib.hid (HJ.out.step ⟨by rw [HE.out]; exact HN.out, fun _ _ => by rw [HE.out]; exact K5.out⟩)⟩
                  case measure => simp [intOf]; omega
                · have k5' : (x != 0) = true := by simp [k5]
                  have K5 := Lib.hid k5
                  clear k5
                  go_wp2
                  go_ret
                  refine ⟨_, rfl, ⟨fun h => absurd h (by decide), fun h => absurd ?_ K5.out⟩, (Below.refl _ _).alloc (Nat.le_refl _) _⟩
                  have := (h r (by rw [HM.out]; exact cr) c' (by rw [HX.out]; exact cc)).2 K3.out K4.out
                  rw [← HE.out]; exact this
              · have k4' : ((r : Int) == (c' : Int)) = false := by simp; omega
                have K4 := Lib.hid k4
                clear k4
                go_wp2
                go_round
                case rel => exact ⟨c' + 1, by go_num, by omega, Lib.hid (HJ.out.step ⟨by rw [HE.out]; exact HN.out, fun _ h => absurd h K4.out⟩)⟩
                case measure => simp [intOf]; omega
            · have k3' : (I.kind == 3) = false := by simp [k3]
              have K3 := Lib.hid k3
              clear k3
              go_wp2
              go_round
              case rel => exact ⟨c' + 1, by go_num, by omega, Lib.hid (HJ.out.step ⟨by rw [HE.out]; exact HN.out, fun h => absurd h K3.out⟩)⟩
              case measure => simp [intOf]; omega
          · have cz' : (e1 == 0) = false := by simp [cz]
            have cz'' : (e1 != 0) = true := by simp [cz]
            have CZ := Lib.hid cz
            clear cz
            go_wp2
            go_ret
            refine ⟨_, rfl, ⟨fun h => absurd h CZ.out, fun h => absurd (He1.out.2 ?_) CZ.out⟩, (Below.refl _ _).alloc (Nat.le_refl _) _⟩
            have := (h r (by rw [HM.out]; exact cr) c' (by rw [HX.out]; exact cc)).1
            rw [← HE.out]; exact this
        · go_wp2
          go_round
          case rel =>
            obtain rfl : c' = xs.length := by omega
            exact ⟨r + 1, by go_num, by omega, Lib.hid (HI.out.step (by rw [HX.out]; exact HJ.out))⟩
          case measure => simp [intOf]; omega
    · go_wp2
      go_ret
      obtain rfl : r = m := by omega
      have := HI.out
      rw [← HM.out] at this
      exact ⟨_, rfl, ⟨fun _ => this, fun _ => rfl⟩, (Below.refl _ _).alloc (Nat.le_refl _) _⟩
end Go.Proofs.YtmfgffmlnfimcaaDoor
