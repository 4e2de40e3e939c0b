/- The walks of inst.shape and inst.Check. -/
import Derived.Test.YtmfgffmlnfimcaaDoorB
namespace Go.Proofs.YtmfgffmlnfimcaaDoor
open Go Go.RowKit

/-- The literal in shape: is a row of another length? -/
theorem shape1_any (A : Option Addr) (l c : Nat) (b : Nat) (n : Int) (w : World) (hc : w.cell? ⟨b, 1, none⟩ = some (.int .i64 n)) :
    Calls Tryd.prog 32 #[.slice A l c, .pointer (some ⟨b, 0, none⟩)] w fun e w' => e = .returned (.bool ((l : Int) != n)) ∧ w = w' := by
  go_enter Tryd.func32, Tryd.ntmps32
  go_wp2
  go_ret
  exact ⟨rfl, rfl⟩

/-- Which row is the first one of another length? -/
def oddRow (n : Int) (xss : List (List Int)) (r : Int) : Prop :=
  (r = -1 ∧ ∀ j, j < xss.length → ((xss.getD j []).length : Int) = n) ∨ (0 ≤ r ∧ ∃ j, j < xss.length ∧ ((xss.getD j []).length : Int) ≠ n)

theorem index_any (A : Option Addr) (c : Nat) (xss : List (List Int)) (b : Nat) (n : Int) (w : World) (hb : xss.length ≤ big) (hR : RowsAt w A xss) (hc : w.cell? ⟨b, 1, none⟩ = some (.int .i64 n)) :
    Calls Tryd.prog 45 #[.slice A xss.length c, .func (.func 32) #[] #[.pointer (some ⟨b, 0, none⟩)]] w fun e w' => (∃ r, e = .returned (.int .i64 r) ∧ oddRow n xss r) ∧ w = w' := by
  obtain ⟨m, hm⟩ : ∃ m, xss.length = m := ⟨_, rfl⟩
  rw [hm]
  have hbm : m ≤ 17592186044000 := by unfold big at hb; omega
  have HM := Lib.hid hm
  have HR := Lib.hid hR
  clear hm hb hR
  go_enter Tryd.func45, Tryd.ntmps45
  go_wp2
  go_loop [8] (fun v8 => ∃ (r : Nat), v8 = .int .i64 r ∧ r ≤ m ∧ Hid (∀ j, j < r → ((xss.getD j []).length : Int) = n)) (fun v8 => m - (intOf v8).toNat)
  case atStart => exact ⟨0, rfl, Nat.zero_le _, Lib.hid (fun r h => absurd h (by omega))⟩
  case round =>
    obtain ⟨r, rfl, hr, HI⟩ := hrel
    by_cases cr : r < m
    · obtain ⟨ad, B, c2, e1, hc1, hcc, hB⟩ := HR.out.at_ (j := r) (by rw [HM.out]; exact cr)
      obtain ⟨l, hl⟩ : ∃ l, (xss.getD r []).length = l := ⟨_, rfl⟩
      rw [hl] at hc1 hcc
      have HL := Lib.hid hl
      clear hl hB
      subst e1
      by_cases ch : (l : Int) = n
      · have ch' : ((l : Int) != n) = false := by simp [ch]
        have CH := Lib.hid ch
        clear ch
        go_wp2_with (go_at_call 32; refine (shape1_any _ _ _ _ _ _ hc).mono ?_; rintro e w' ⟨rfl, rfl⟩)
        go_round
        case rel =>
          refine ⟨r + 1, by go_num, by omega, Lib.hid (fun j hj => ?_)⟩
          by_cases e : j = r
          · subst e; rw [HL.out]; exact CH.out
          · exact HI.out j (by omega)
        case measure => simp [intOf]; omega
      · have ch' : ((l : Int) != n) = true := by simp [ch]
        have CH := Lib.hid ch
        clear ch
        go_wp2_with (go_at_call 32; refine (shape1_any _ _ _ _ _ _ hc).mono ?_; rintro e w' ⟨rfl, rfl⟩)
        go_ret
        exact ⟨⟨_, rfl, .inr ⟨by omega, r, by rw [HM.out]; exact cr, by rw [HL.out]; exact CH.out⟩⟩, rfl⟩
    · go_wp2
      go_ret
      obtain rfl : r = m := by omega
      have := HI.out
      rw [← HM.out] at this
      exact ⟨⟨_, rfl, .inl ⟨rfl, this⟩⟩, rfl⟩

theorem contains_any (A : Option Addr) (c : Nat) (xss : List (List Int)) (b : Nat) (n : Int) (w : World) (hb : xss.length ≤ big) (hR : RowsAt w A xss) (hc : w.cell? ⟨b, 1, none⟩ = some (.int .i64 n)) :
    Calls Tryd.prog 31 #[.slice A xss.length c, .func (.func 32) #[] #[.pointer (some ⟨b, 0, none⟩)]] w fun e w' => (∃ r, e = .returned (.bool r) ∧ (r = false ↔ ∀ j, j < xss.length → ((xss.getD j []).length : Int) = n)) ∧ w = w' := by
  have h := index_any A c xss b n w hb hR hc
  have H := Lib.hid h
  clear h hR hb
  go_enter Tryd.func31, Tryd.ntmps31
  go_wp2_with fail
  refine H.out.mono ?_
  rintro e w' ⟨⟨r, rfl, hr⟩, rfl⟩
  have HR := Lib.hid hr
  clear hr
  by_cases h0 : 0 ≤ r
  · go_wp2
    go_ret
    refine ⟨⟨_, rfl, ?_⟩, rfl⟩
    rcases HR.out with ⟨h1, h2⟩ | ⟨h1, j, h2, h3⟩
    · omega
    · exact ⟨fun h => by simp at h, fun h => absurd (h j h2) h3⟩
  · go_wp2
    go_ret
    refine ⟨⟨_, rfl, ?_⟩, rfl⟩
    rcases HR.out with ⟨h1, h2⟩ | ⟨h1, j, h2, h3⟩
    · exact ⟨fun _ => h2, fun _ => by simp; omega⟩
    · omega


/-- What a call that only makes blocks answers, where the answer is a bool. -/
def SaysB (p : Prop) (w : World) (e : Ending) (w' : World) : Prop := ∃ r : Bool, e = .returned (.bool r) ∧ (r = true ↔ p) ∧ Below w.heap.size w w'

set_option maxHeartbeats 1000000 in
theorem shape_knap (I : Inst) (A1 A2 A3 : Option Addr) (c1 c2 c3 : Nat) (w : World) (hk : I.kind = 1) :
    Calls Tryd.prog 22 #[.agg #[.int .i64 I.kind, .int .i64 I.n, .int .i64 I.cap, .slice A1 I.ws.length c1, .slice A2 I.vs.length c2, .slice A3 I.cost.length c3]] w (SaysB (shapeOk I) w) := by
  have hs : shapeOk I ↔ ((I.ws.length : Int) = I.n ∧ (I.vs.length : Int) = I.n ∧ I.cost.length = 0) := by unfold shapeOk; simp [hk]
  have HS := Lib.hid hs
  clear hs
  rw [hk]
  generalize I.ws.length = l1 at *
  generalize I.vs.length = l2 at *
  generalize I.cost.length = l3 at *
  generalize I.n = n at *
  have HK := Lib.hid hk
  clear hk
  by_cases e1 : (l1 : Int) = n
  · have e1' : ((l1 : Int) == n) = true := by simp [e1]
    have E1 := Lib.hid e1
    clear e1
    by_cases e2 : (l2 : Int) = n
    · have e2' : ((l2 : Int) == n) = true := by simp [e2]
      have E2 := Lib.hid e2
      clear e2
      by_cases e3 : l3 = 0
      · have e3' : ((l3 : Int) == 0) = true := by simp [e3]
        have E3 := Lib.hid e3
        clear e3
        go_enter Tryd.func22, Tryd.ntmps22
        go_wp2
        go_ret
        exact ⟨_, rfl, ⟨fun _ => HS.out.2 ⟨E1.out, E2.out, E3.out⟩, fun _ => by simp⟩, (Below.refl _ _).alloc (Nat.le_refl _) _⟩
      · have e3' : ((l3 : Int) == 0) = false := by simp [e3]
        have E3 := Lib.hid e3
        clear e3
        go_enter Tryd.func22, Tryd.ntmps22
        go_wp2
        go_ret
        exact ⟨_, rfl, ⟨fun h => absurd h (by simp), fun h => absurd (HS.out.1 h).2.2 E3.out⟩, (Below.refl _ _).alloc (Nat.le_refl _) _⟩
    · have e2' : ((l2 : Int) == n) = false := by simp [e2]
      have E2 := Lib.hid e2
      clear e2
      go_enter Tryd.func22, Tryd.ntmps22
      go_wp2
      go_ret
      exact ⟨_, rfl, ⟨fun h => absurd h (by simp), fun h => absurd (HS.out.1 h).2.1 E2.out⟩, (Below.refl _ _).alloc (Nat.le_refl _) _⟩
  · have e1' : ((l1 : Int) == n) = false := by simp [e1]
    have E1 := Lib.hid e1
    clear e1
    go_enter Tryd.func22, Tryd.ntmps22
    go_wp2
    go_ret
    exact ⟨_, rfl, ⟨fun h => absurd h (by simp), fun h => absurd (HS.out.1 h).1 E1.out⟩, (Below.refl _ _).alloc (Nat.le_refl _) _⟩

set_option maxHeartbeats 1000000 in
theorem shape_rows (I : Inst) (A1 A2 A3 : Option Addr) (c1 c2 c3 : Nat) (w : World) (hk : I.kind ≠ 1) (hb1 : I.ws.length ≤ big) (hb2 : I.vs.length ≤ big) (hb3 : I.cost.length ≤ big) (h3 : RowsAt w A3 I.cost) :
    Calls Tryd.prog 22 #[.agg #[.int .i64 I.kind, .int .i64 I.n, .int .i64 I.cap, .slice A1 I.ws.length c1, .slice A2 I.vs.length c2, .slice A3 I.cost.length c3]] w (SaysB (shapeOk I) w) := by
  have hs : shapeOk I ↔ ((I.cost.length : Int) = I.n ∧ I.cap = 0 ∧ I.ws.length + I.vs.length = 0 ∧ ∀ r, r < I.cost.length → ((I.cost.getD r []).length : Int) = I.n) := by
    unfold shapeOk
    constructor
    · rintro (h | h)
      · exact absurd h.1 hk
      · exact ⟨h.2.1, h.2.2.1, by omega, h.2.2.2.2.2⟩
    · intro h
      exact .inr ⟨hk, h.1, h.2.1, by omega, by omega, h.2.2.2⟩
  have HS := Lib.hid hs
  clear hs
  have hk' : (I.kind == 1) = false := by simp [hk]
  have hcon := fun W hR hc => contains_any A3 c3 I.cost w.heap.size I.n W hb3 hR hc
  have HC := Lib.hid hcon
  have H3 := Lib.hid h3
  have hl1 : I.ws.length ≤ 17592186044000 := by unfold big at hb1; omega
  have hl2 : I.vs.length ≤ 17592186044000 := by unfold big at hb2; omega
  clear hcon h3 hk hb1 hb2 hb3
  by_cases e1 : (I.cost.length : Int) = I.n
  · have e1' : ((I.cost.length : Int) != I.n) = false := by simp [e1]
    have E1 := Lib.hid e1
    clear e1
    by_cases e2 : I.cap = 0
    · have e2' : (I.cap != 0) = false := by simp [e2]
      have E2 := Lib.hid e2
      clear e2
      by_cases e3 : 0 < I.ws.length + I.vs.length
      · have e3' : decide ((0 : Int) < (I.ws.length : Int) + (I.vs.length : Int)) = true := by simp; omega
        go_enter Tryd.func22, Tryd.ntmps22
        go_wp2
        go_ret
        exact ⟨_, rfl, ⟨fun h => absurd h (by simp), fun h => absurd (HS.out.1 h).2.2.1 (by omega)⟩, (Below.refl _ _).alloc (Nat.le_refl _) _⟩
      · have e3' : decide ((0 : Int) < (I.ws.length : Int) + (I.vs.length : Int)) = false := by simp; omega
        go_enter Tryd.func22, Tryd.ntmps22
        go_wp2_with fail
        refine (HC.out _ (H3.out.keep ((Below.refl _ _).alloc (Nat.le_refl _) _)) (by simp)).mono ?_
        rintro e w' ⟨⟨r, rfl, hr⟩, rfl⟩
        have HR := Lib.hid hr
        clear hr
        cases r
        · go_wp2
          go_ret
          exact ⟨_, rfl, ⟨fun _ => HS.out.2 ⟨E1.out, E2.out, by omega, HR.out.1 (by simp)⟩, fun _ => rfl⟩, (Below.refl _ _).alloc (Nat.le_refl _) _⟩
        · go_wp2
          go_ret
          exact ⟨_, rfl, ⟨fun h => absurd h (by simp), fun h => absurd (HR.out.2 (HS.out.1 h).2.2.2) (by simp)⟩, (Below.refl _ _).alloc (Nat.le_refl _) _⟩
    · have e2' : (I.cap != 0) = true := by simp [e2]
      have E2 := Lib.hid e2
      clear e2
      go_enter Tryd.func22, Tryd.ntmps22
      go_wp2
      go_ret
      exact ⟨_, rfl, ⟨fun h => absurd h (by simp), fun h => absurd (HS.out.1 h).2.1 E2.out⟩, (Below.refl _ _).alloc (Nat.le_refl _) _⟩
  · have e1' : ((I.cost.length : Int) != I.n) = true := by simp [e1]
    have E1 := Lib.hid e1
    clear e1
    go_enter Tryd.func22, Tryd.ntmps22
    go_wp2
    go_ret
    exact ⟨_, rfl, ⟨fun h => absurd h (by simp), fun h => absurd (HS.out.1 h).1 E1.out⟩, (Below.refl _ _).alloc (Nat.le_refl _) _⟩

theorem shape_any (I : Inst) (A1 A2 A3 : Option Addr) (c1 c2 c3 : Nat) (w : World) (hb1 : I.ws.length ≤ big) (hb2 : I.vs.length ≤ big) (hb3 : I.cost.length ≤ big) (h3 : RowsAt w A3 I.cost) :
    Calls Tryd.prog 22 #[.agg #[.int .i64 I.kind, .int .i64 I.n, .int .i64 I.cap, .slice A1 I.ws.length c1, .slice A2 I.vs.length c2, .slice A3 I.cost.length c3]] w (SaysB (shapeOk I) w) := by
  by_cases hk : I.kind = 1
  · exact shape_knap I A1 A2 A3 c1 c2 c3 w hk
  · exact shape_rows I A1 A2 A3 c1 c2 c3 w hk hb1 hb2 hb3 h3

set_option maxHeartbeats 1000000 in
/-- inst.Check: 0 says that the problem is in form. -/
theorem check_any (I : Inst) (v : Value) (w : World) (h : InstAt w v I) : Calls Tryd.prog 15 #[v] w (Says (WF I) w) := by
  obtain ⟨A1, c1, A2, c2, A3, c3, rfl, h1, h2, h3, h4, h5, h6, h7, h8, h9, h10⟩ := h
  have hsz := fun W => size_any I.kind I.n I.cap A1 A2 A3 I.ws.length c1 I.vs.length c2 I.cost.length c3 W
  have hsh := fun W h3 => shape_any I A1 A2 A3 c1 c2 c3 W h4 h5 h6 h3
  have hrw := fun W h3 => rows_any I A1 A2 A3 I.ws.length c1 I.vs.length c2 c3 W h6 h7 h3
  have hit := fun W ha hb hc h8 h9 => items_any I A1 A2 A3 c1 c2 I.cost.length c3 W ha hb hc h4 h8 h9
  have HSZ := Lib.hid hsz
  have HSH := Lib.hid hsh
  have HRW := Lib.hid hrw
  have HIT := Lib.hid hit
  have H8 := Lib.hid h8
  have H9 := Lib.hid h9
  have H10 := Lib.hid h10
  clear hsz hsh hrw hit h1 h2 h3 h4 h5 h6 h7 h8 h9 h10
  go_enter Tryd.func15, Tryd.ntmps15
  go_wp2_with fail
  refine (HSZ.out _).mono ?_
  rintro e w1 ⟨r1, rfl, hr1, hb1⟩
  have HB1 := Lib.hid hb1
  have HR1 := Lib.hid hr1
  obtain ⟨hc1, hf1⟩ := bcell hb1
  clear hb1 hr1
  by_cases z1 : r1 = 0
  · have z1' : (r1 != 0) = false := by simp [z1]
    have Z1 := Lib.hid z1
    clear z1
    go_wp2_with fail
    refine (HSH.out _ (H10.out.keep (keep_box HB1.out))).mono ?_
    rintro e w2 ⟨r2, rfl, hr2, hb2⟩
    have HR2 := Lib.hid hr2
    have hbb := keep_trans HB1.out hb2
    have HB2 := Lib.hid hbb
    clear hc1 hf1 hr2 hb2
    obtain ⟨hc2, hf2⟩ := bcell hbb
    clear hbb
    cases r2
    · go_wp2
      go_ret
      exact ⟨_, rfl, ⟨fun h => absurd h (by decide), fun h => absurd (HR2.out.2 h.2.1) (by simp)⟩, keep_box HB2.out⟩
    · by_cases k1 : I.kind = 1
      · have k1' : (I.kind == 1) = true := by simp [k1]
        have K1 := Lib.hid k1
        clear k1
        have hsh := HR2.out.1 (by simp)
        have hsz := HR1.out.1 Z1.out
        go_wp2_with fail
        refine (HIT.out _ ?_ ?_ ?_ (H8.out.keep (keep_box HB2.out)) (H9.out.keep (keep_box HB2.out))).mono ?_
        · rcases hsz with h | h <;> omega
        · rcases hsh with h | h
          · exact h.2.1
          · exact absurd K1.out h.1
        · rcases hsh with h | h
          · exact h.2.2.1
          · exact absurd K1.out h.1
        rintro e w3 ⟨r3, rfl, hr3, hb3⟩
        have HR3 := Lib.hid hr3
        have HB3 := Lib.hid hb3
        have HSH' := Lib.hid hsh
        have HSZ' := Lib.hid hsz
        clear hr3 hb3 hsh hsz
        go_wp2
        go_ret
        exact ⟨_, rfl, ⟨fun h => ⟨HSZ'.out, HSH'.out, fun _ => HR3.out.1 h, fun h1 => absurd K1.out h1⟩, fun h => HR3.out.2 (h.2.2.1 K1.out)⟩, keep_box (keep_trans HB2.out HB3.out)⟩
      · have k1' : (I.kind == 1) = false := by simp [k1]
        have K1 := Lib.hid k1
        clear k1
        have hsh := HR2.out.1 (by simp)
        have hsz := HR1.out.1 Z1.out
        have HSH' := Lib.hid hsh
        have HSZ' := Lib.hid hsz
        clear hsh hsz
        go_wp2_with fail
        refine (HRW.out _ (H10.out.keep (keep_box HB2.out))).mono ?_
        rintro e w3 ⟨r3, rfl, hr3, hb3⟩
        have HR3 := Lib.hid hr3
        have HB3 := Lib.hid hb3
        clear hr3 hb3
        go_wp2
        go_ret
        exact ⟨_, rfl, ⟨fun h => ⟨HSZ'.out, HSH'.out, fun h1 => absurd h1 K1.out, fun _ => HR3.out.1 h⟩, fun h => HR3.out.2 (h.2.2.2 K1.out)⟩, keep_box (keep_trans HB2.out HB3.out)⟩
  · have z1' : (r1 != 0) = true := by simp [z1]
    have Z1 := Lib.hid z1
    clear z1
    go_wp2
    go_ret
    exact ⟨_, rfl, ⟨fun h => absurd h Z1.out, fun h => absurd (HR1.out.2 h.1) Z1.out⟩, keep_box HB1.out⟩
end Go.Proofs.YtmfgffmlnfimcaaDoor
