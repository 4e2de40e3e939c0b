/- What the laws' walks share: large at a problem in form, Copy of a matrix, arrays as lists. -/
import Derived.Test.YtmfgffmlnfimcaaDoorY
namespace Go.Proofs.YtmfgffmlnfimcaaDoor
open Go Go.RowKit Go.Shelf Go.Sort

theorem large_kinds {I : Inst} (h : isLarge I = true) : (I.kind = 1 ∧ I.n ≤ 14) ∨ (I.kind = 2 ∧ I.n ≤ 16) ∨ (I.kind = 3 ∧ I.n ≤ 9) := by
  simpa [isLarge, or_assoc] using h
theorem large_lim {I : Inst} (h : isLarge I = true) : Lim I := by
  have := large_kinds h
  exact ⟨fun e => by omega, fun e => by omega⟩
theorem large_true (I : Inst) (hI : WF I) (hl : isLarge I = true) (v : Value) (w : World) (hv : InstAt w v I) : Calls Tryd.prog 9 #[v] w fun e w' => e = .returned (.bool true) ∧ Below w.heap.size w w' := by
  refine (large_any I v w hv).mono ?_
  rintro e w' ⟨⟨b, rfl, hb⟩, h2⟩
  rw [hb.2 ⟨hI, hl⟩]
  exact ⟨rfl, h2⟩
theorem large_false (I : Inst) (h : ¬ (WF I ∧ isLarge I = true)) (v : Value) (w : World) (hv : InstAt w v I) : Calls Tryd.prog 9 #[v] w fun e w' => e = .returned (.bool false) ∧ Below w.heap.size w w' := by
  refine (large_any I v w hv).mono ?_
  rintro e w' ⟨⟨b, rfl, hb⟩, h2⟩
  cases b
  · exact ⟨rfl, h2⟩
  · exact absurd (hb.1 rfl) h

/-- The form of a problem's value, kind and size known. -/
theorem InstAt.mform {I : Inst} (hI : WF I) {K : Int} (hk : I.kind = K) (hk1 : K ≠ 1) {n : Nat} (hn : I.n = (n : Int)) {w : World} {v : Value} (hv : InstAt w v I) :
    ∃ A1 c1 A2 c2 A3 c3, v = .agg #[.int .i64 K, .int .i64 (n : Int), .int .i64 0, .slice A1 0 c1, .slice A2 0 c2, .slice A3 n c3] ∧ n ≤ c3 ∧ RowsAt w A3 I.cost := by
  obtain ⟨m, hm, -, -, -, hl, hcap, hw, hv2, -⟩ := hI.rows (by omega)
  obtain ⟨A1, c1, A2, c2, A3, c3, rfl, -, -, h3, -, -, -, -, -, -, h10⟩ := hv
  have e : m = n := by omega
  subst e
  exact ⟨A1, c1, A2, c2, A3, c3, by rw [hk, hn, hcap, hw, hv2, hl]; rfl, by omega, h10⟩

/-- The form of a knapsack's value. -/
theorem InstAt.kform {I : Inst} (hI : WF I) (hk : I.kind = 1) {n : Nat} (hn : I.n = (n : Int)) {w : World} {v : Value} (hv : InstAt w v I) :
    ∃ A1 c1 A2 c2 A3 c3, v = .agg #[.int .i64 1, .int .i64 (n : Int), .int .i64 I.cap, .slice A1 n c1, .slice A2 n c2, .slice A3 0 c3] ∧ n ≤ c1 ∧ n ≤ c2 ∧ IntsAt w A1 I.ws ∧ IntsAt w A2 I.vs := by
  obtain ⟨m, hm, -, -, hw, hv2, hc, -⟩ := hI.knap hk
  obtain ⟨A1, c1, A2, c2, A3, c3, rfl, h1, h2, -, -, -, -, -, h8, h9, -⟩ := hv
  have e : m = n := by omega
  subst e
  exact ⟨A1, c1, A2, c2, A3, c3, by rw [hk, hn, hw, hv2, hc]; rfl, by omega, by omega, h8, h9⟩

/-- What Copy tells of an assignment or a tour. -/
def CopiedM (I : Inst) (K : Int) (n : Nat) (w : World) (e : Ending) (w' : World) : Prop :=
  ∃ A8 c8 A11 c11 g c5 r cp B, e = .returned (.agg #[.int .i64 K, .int .i64 (n : Int), .int .i64 0, .slice A8 0 c8, .slice A11 0 c11, .slice (some ⟨g, 0, none⟩) n c5]) ∧
    n ≤ c5 ∧ w.heap.size + 2 ≤ B ∧ Mat w' B g n r cp (elt I) ∧ Below w.heap.size w w'

theorem copy_mat (I : Inst) (hI : WF I) {K : Int} (hk : I.kind = K) (hk1 : K ≠ 1) {n : Nat} (hn : I.n = (n : Int)) (v : Value) (w : World) (hv : InstAt w v I) : Calls Tryd.prog 17 #[v] w (CopiedM I K n w) := by
  obtain ⟨m, hm, h1, h24, -, hl, hcap, hw, hv2, hrow, -⟩ := hI.rows (by omega)
  have e : m = n := by omega
  subst e
  have hbg : ∀ r, (I.cost.getD r []).length ≤ big := by
    obtain ⟨_, _, _, _, _, _, _, _, _, _, _, _, _, h, _⟩ := hv
    exact h
  refine (copy_any I v w hv (by omega) (fun j hj e => ?_) hbg).mono ?_
  · have := hrow j (by omega)
    rw [e] at this; simp at this; omega
  · rintro e w' ⟨v', rfl, A8, c8, A11, c11, A5, c5, r, cp, B, rfl, hB, -, -, -, hR, hb⟩
    rw [hl] at hR ⊢
    obtain ⟨g, c, e, hc, hM⟩ := hR.mat (by omega) hrow
    cases e
    exact ⟨A8, c8, A11, c11, g, c5, r, cp, B, by rw [hk, hn, hcap, hw, hv2]; rfl, hc, hB, hM, hb⟩

theorem Mat.drew {w : World} {B g n : Nat} {r cp : Nat → Nat} {f : Nat → Nat → Int} (h : Mat w B g n r cp f) : Mat w.drew B g n r cp f := h.below (Below.refl _ _).drew
theorem Arr.drew {w : World} {g n : Nat} {f : Nat → Int} (h : Arr w g n f) : Arr w.drew g n f := Row.keep (S := fun _ => False) h (Keep.of_below (Below.refl _ _).drew) (fun h => h)
theorem PermL.len {n : Nat} {x : List Int} (h : PermL n x) : x.length = n := h.1
theorem Feas.len {I : Inst} {n : Nat} (hn : I.n = (n : Int)) {x : List Int} (h : Feas I x) : x.length = n := by
  by_cases hk : I.kind = 1
  · rw [(h.1 hk).1, hn, Int.toNat_natCast]
  · rw [(h.2 hk).1.1, hn, Int.toNat_natCast]

theorem Arr.ints {w : World} {g n : Nat} {f : Nat → Int} (h : Arr w g n f) {xs : List Int} (hl : xs.length = n) (e : ∀ j, j < n → f j = xs.getD j 0) : IntsAt w (some ⟨g, 0, none⟩) xs := by
  intro _
  refine ⟨_, rfl, fun j hj => ?_⟩
  rw [row_slice, h.cell (by omega), e j (by omega)]
theorem Arr.natL {w : World} {g n : Nat} {f : Nat → Int} (h : Arr w g n f) {y : Nat → Nat} (e : ∀ j, j < n → f j = (y j : Nat)) : IntsAt w (some ⟨g, 0, none⟩) (natL n y) :=
  h.ints (natL_len n y) fun j hj => by rw [natL_get y hj, e j hj]
end Go.Proofs.YtmfgffmlnfimcaaDoor
