/- The smaller problems that come of one decision, and what best tells of them. -/
import Derived.Test.YtmfgffmlnfimcaaDoorDe
import Derived.Test.YtmfgffmlnfimcaaDoorT7k
namespace Go.Proofs.YtmfgffmlnfimcaaDoor
open Go Go.RowKit Go.Shelf Go.Sort Go.Deep

/-- A cost within its bounds. -/
def inB (d : Int) : Prop := 0 ≤ d ∧ d ≤ 1099511627776
theorem sk_lt {k m a : Nat} (h : a < m) : sk k a < m + 1 := by unfold sk; split <;> omega

/-! Assignments. -/
def subA (I : Inst) (k b m : Nat) : Inst := { I with n := (m : Int), cost := minorL I.cost m k b }
def PA (I : Inst) (k b m : Nat) (d : Int) : Prop := Best2 (fun a c => elt I (sk k a) (sk b c)) m d ∧ inB d
theorem subA_elt {I : Inst} {k b m : Nat} (hl : ∀ r, r < m + 1 → (I.cost.getD r []).length = m + 1) (hb : b ≤ m) {a c : Nat} (ha : a < m) (hc : c < m) : elt (subA I k b m) a c = elt I (sk k a) (sk b c) := by
  show ((minorL I.cost m k b).getD a []).getD c 0 = _
  rw [minorL_get _ ha]
  exact del_get (hl _ (sk_lt ha)) hb hc
theorem subA_len (I : Inst) (k b m : Nat) : (subA I k b m).cost.length = m := by show (minorL I.cost m k b).length = m; unfold minorL; simp
theorem subA_row {I : Inst} {k b m : Nat} (hl : ∀ r, r < m + 1 → (I.cost.getD r []).length = m + 1) (hb : b ≤ m) {a : Nat} (ha : a < m) : ((subA I k b m).cost.getD a []).length = m := by
  show ((minorL I.cost m k b).getD a []).length = m
  rw [minorL_get _ ha]
  exact del_len (hl _ (sk_lt ha)) hb
theorem subA_wf {I : Inst} (hI : WF I) (hk : I.kind = 2) {m : Nat} (hn : I.n = ((m + 1 : Nat) : Int)) {k b : Nat} (hb : b ≤ m) (hm : 0 < m) : WF (subA I k b m) := by
  obtain ⟨m1, e1, p1, p24, -, l1, hcap, hw, hv, hr1, ok1, -⟩ := hI.rows (by omega)
  obtain rfl : m1 = m + 1 := by omega
  refine ⟨.inr ⟨.inl hk, ?_, ?_⟩, .inr ⟨by show I.kind ≠ 1; omega, ?_, hcap, ?_, ?_, fun r hr => ?_⟩, fun e => ?_, fun _ r hr c hc => ?_⟩
  · show (1 : Int) ≤ (m : Int); omega
  · show (m : Int) ≤ 24; omega
  · rw [subA_len]; rfl
  · show I.ws.length = 0; rw [hw]; rfl
  · show I.vs.length = 0; rw [hv]; rfl
  · rw [subA_len] at hr
    rw [subA_row hr1 hb hr]; rfl
  · have : I.kind = 1 := e
    omega
  · rw [subA_len] at hr
    rw [subA_row hr1 hb hr] at hc
    have e := subA_elt (k := k) hr1 hb hr hc
    unfold elt at e
    rw [e]
    refine ⟨ok1 _ _ (sk_lt hr) (sk_lt hc), fun e => by have : I.kind = 3 := e; omega⟩

theorem mat_at {I : Inst} {w : World} {K : Int} {N c : Nat} {A : Option Addr} (hk : I.kind = K) (hn : I.n = (N : Int)) (hl : I.cost.length = N) (hr : ∀ q, q < N → (I.cost.getD q []).length = N) (hcz : N ≤ c) (hR : RowsAt w A I.cost) (hN : N ≤ 64) (hcap : I.cap = 0) (hw : I.ws = []) (hv : I.vs = []) :
    InstAt w (.agg #[.int .i64 K, .int .i64 (N : Int), .int .i64 0, .slice none 0 0, .slice none 0 0, .slice A N c]) I := by
  refine ⟨none, 0, none, 0, A, c, ?_, by rw [hw]; exact Nat.le_refl _, by rw [hv]; exact Nat.le_refl _, by rw [hl]; exact hcz, by rw [hw]; exact Nat.zero_le _, by rw [hv]; exact Nat.zero_le _, by rw [hl]; unfold big; omega, fun q => ?_, (by rw [hw]; intro h; cases h), (by rw [hv]; intro h; cases h), hR⟩
  · rw [hl, hk, hcap, hw, hv, hn]; rfl
  · by_cases hq : q < N
    · rw [hr q hq]; unfold big; omega
    · rw [List.getD_eq_getElem?_getD, List.getElem?_eq_none (by rw [hl]; omega)]; exact Nat.zero_le _

theorem best2_zero (A : Nat → Nat → Int) : Best2 A 0 0 := ⟨⟨fun _ => 0, ⟨fun j hj => by omega, fun j k hj => by omega⟩, rfl⟩, fun y _ => Int.le_refl _⟩
theorem bestA {I : Inst} (hI : WF I) (hk : I.kind = 2) {m : Nat} (hn : I.n = ((m + 1 : Nat) : Int)) {k b : Nat} (hb : b ≤ m) {w : World} (hT : TabW w) {A : Option Addr} {c : Nat} (hc : m ≤ c) (hR : RowsAt w A (minorL I.cost m k b)) :
    BestOf (PA I k b m) w (.agg #[.int .i64 2, .int .i64 (m : Int), .int .i64 0, .slice none 0 0, .slice none 0 0, .slice A m c]) := by
  intro W hW
  obtain ⟨m1, e1, p1, p24, -, l1, hcap, hw, hv, hr1, ok1, -⟩ := hI.rows (by omega)
  obtain rfl : m1 = m + 1 := by omega
  by_cases h0 : m = 0
  · subst h0
    refine (topbest_zero 2 0 _ _ _ W).mono ?_
    rintro e w' ⟨rfl, hb'⟩
    exact ⟨⟨0, _, _, _, rfl, best2_zero _, by unfold inB; omega⟩, hb'⟩
  · have hwf := subA_wf hI hk hn (k := k) hb (by omega)
    refine (topbest_any (subA I k b m) hwf ⟨fun e => by have : I.kind = 1 := e; omega, fun e => by have : I.kind = 3 := e; omega⟩ _ W
      (mat_at (I := subA I k b m) hk rfl (subA_len I k b m) (fun q hq => subA_row hr1 hb hq) hc (hR.keep hW) (by omega) hcap hw hv) (hT.keep hW)).mono ?_
    rintro e w' ⟨x, Ax, cx, rfl, hox, -, -, hb'⟩
    refine ⟨⟨_, _, _, _, rfl, (hox.best2 (I := subA I k b m) hk rfl).congr fun a c ha hc => subA_elt hr1 hb ha hc, ?_⟩, hb'⟩
    have := cost_range hwf hox.1 (show (subA I k b m).kind ≠ 1 by show I.kind ≠ 1; omega)
    unfold inB; omega

/-! Tours. -/
def subT (I : Inst) (k b p : Nat) : Inst := { setC I (p + 2) (jC (elt I) k b p) with n := ((p + 2 : Nat) : Int) }
def PT (I : Inst) (k b p : Nat) (d : Int) : Prop := Best3 (jC (elt I) k b p) (p + 2) d ∧ inB d
theorem subT_elt {I : Inst} {k b p a c : Nat} (ha : a < p + 2) (hc : c < p + 2) : elt (subT I k b p) a c = jC (elt I) k b p a c := elt_setC I _ ha hc
theorem oth_lt {k b p a : Nat} (hkb : k ≠ b) (hk : k < p + 3) (hb : b < p + 3) (ha : a ≤ p) : (oth k b (p + 3)).getD a 0 < p + 3 := (oth_mem (getD_mem (by rw [oth_len2 hkb hk hb]; omega))).1
theorem subT_wf {I : Inst} (hI : WF I) (hk : I.kind = 3) {p : Nat} (hn : I.n = ((p + 3 : Nat) : Int)) {k b : Nat} (hkb : k ≠ b) (hkk : k < p + 3) (hb : b < p + 3) : WF (subT I k b p) := by
  obtain ⟨m1, e1, p1, p24, -, l1, hcap, hw, hv, hr1, ok1, dg⟩ := hI.rows (by omega)
  obtain rfl : m1 = p + 3 := by omega
  have hlen : (subT I k b p).cost.length = p + 2 := setC_len I _ _
  have hrow : ∀ r, r < p + 2 → ((subT I k b p).cost.getD r []).length = p + 2 := fun r hr => setC_row I _ hr
  refine ⟨.inr ⟨.inr hk, ?_, ?_⟩, .inr ⟨by show I.kind ≠ 1; omega, ?_, hcap, ?_, ?_, fun r hr => ?_⟩, fun e => ?_, fun _ r hr c hc => ?_⟩
  · show (1 : Int) ≤ ((p + 2 : Nat) : Int); omega
  · show ((p + 2 : Nat) : Int) ≤ 24; omega
  · rw [hlen]; rfl
  · show I.ws.length = 0; rw [hw]; rfl
  · show I.vs.length = 0; rw [hv]; rfl
  · rw [hlen] at hr
    rw [hrow r hr]; rfl
  · have : I.kind = 1 := e
    omega
  · rw [hlen] at hr
    rw [hrow r hr] at hc
    have e := subT_elt (I := I) (k := k) (b := b) hr hc
    unfold elt at e
    rw [e]
    have hol : ∀ a, a ≤ p → (oth k b (p + 3)).getD a 0 < p + 3 := fun a ha => oth_lt hkb hkk hb ha
    unfold jC
    refine ⟨?_, fun _ e2 => ?_⟩
    · split
      · split
        · unfold numOk; omega
        · exact ok1 _ _ hb (hol c (by omega))
      · split
        · exact ok1 _ _ (hol r (by omega)) hkk
        · exact ok1 _ _ (hol r (by omega)) (hol c (by omega))
    · subst e2
      split
      · rfl
      · exact dg hk _ (hol r (by omega))
theorem bestT {I : Inst} (hI : WF I) (hk : I.kind = 3) {p : Nat} (hp : p ≤ 6) (hn : I.n = ((p + 3 : Nat) : Int)) {k b : Nat} (hkb : k ≠ b) (hkk : k < p + 3) (hb : b < p + 3) {w : World} (hT : TabW w) {A : Option Addr} {c : Nat} (hc : p + 2 ≤ c) (hR : RowsAt w A (subT I k b p).cost) :
    BestOf (PT I k b p) w (.agg #[.int .i64 3, .int .i64 ((p + 2 : Nat) : Int), .int .i64 0, .slice none 0 0, .slice none 0 0, .slice A (p + 2) c]) := by
  intro W hW
  obtain ⟨m1, e1, p1, p24, -, l1, hcap, hw, hv, hr1, ok1, -⟩ := hI.rows (by omega)
  have hwf := subT_wf hI hk hn hkb hkk hb
  refine (topbest_any (subT I k b p) hwf ⟨fun e => by have : I.kind = 1 := e; omega, fun e => by show ((p + 2 : Nat) : Int) ≤ 12; omega⟩ _ W
    (mat_at (I := subT I k b p) hk rfl (setC_len I _ _) (fun q hq => setC_row I _ hq) hc (hR.keep hW) (by omega) hcap hw hv) (hT.keep hW)).mono ?_
  rintro e w' ⟨x, Ax, cx, rfl, hox, -, -, hb'⟩
  refine ⟨⟨_, _, _, _, rfl, (hox.best3 (I := subT I k b p) hk rfl (by omega)).congr (by omega) fun a c ha hc => subT_elt ha hc, ?_⟩, hb'⟩
  have := cost_range hwf hox.1 (show (subT I k b p).kind ≠ 1 by show I.kind ≠ 1; omega)
  unfold inB; omega

/-! Items. -/
def subK (I : Inst) (k m : Nat) (cap : Int) : Inst := { I with n := (m : Int), cap := cap, ws := del I.ws k, vs := del I.vs k }
def PK (I : Inst) (k m : Nat) (cap d : Int) : Prop := Best1 (fun j => gw I (sk k j)) (fun j => gv I (sk k j)) m cap d ∧ inB d
theorem subK_wf {I : Inst} (hI : WF I) (hk : I.kind = 1) {m : Nat} (hn : I.n = ((m + 1 : Nat) : Int)) {k : Nat} (hkm : k ≤ m) (hm : 0 < m) {cap : Int} (hcap : numOk cap) : WF (subK I k m cap) := by
  obtain ⟨n, e1, p1, p64, lw, lv, lc, -, ok⟩ := hI.knap hk
  obtain rfl : n = m + 1 := by omega
  refine ⟨.inl ⟨hk, ?_, ?_⟩, .inl ⟨hk, ?_, ?_, ?_⟩, fun _ => ⟨hcap, fun j hj => ?_⟩, fun e => absurd hk e⟩
  · show (1 : Int) ≤ (m : Int); omega
  · show (m : Int) ≤ 64; omega
  · show ((del I.ws k).length : Int) = (m : Int); rw [del_len lw hkm]
  · show ((del I.vs k).length : Int) = (m : Int); rw [del_len lv hkm]
  · show I.cost.length = 0; rw [lc]; rfl
  · have hj' : j < m := by have h9 : j < ((m : Int)).toNat := hj; omega
    show numOk ((del I.ws k).getD j 0) ∧ numOk ((del I.vs k).getD j 0)
    rw [del_get lw hkm hj', del_get lv hkm hj']
    exact ok _ (sk_lt hj')
theorem best1_zero (ws vs : Nat → Int) {cap : Int} (h : 0 ≤ cap) : Best1 ws vs 0 cap 0 := ⟨⟨fun _ => false, h, rfl⟩, fun _ _ => Int.le_refl _⟩
theorem bestK {I : Inst} (hI : WF I) (hk : I.kind = 1) {m : Nat} (hm13 : m ≤ 13) (hn : I.n = ((m + 1 : Nat) : Int)) {k : Nat} (hkm : k ≤ m) {cap : Int} (hcap : numOk cap) {w : World} (hT : TabW w) {A B : Option Addr} {c d : Nat} (hc : m ≤ c) (hd : m ≤ d) (hA : IntsAt w A (del I.ws k)) (hB : IntsAt w B (del I.vs k)) :
    BestOf (PK I k m cap) w (.agg #[.int .i64 1, .int .i64 (m : Int), .int .i64 cap, .slice A m c, .slice B m d, .slice none 0 0]) := by
  intro W hW
  obtain ⟨n, e1, p1, p64, lw, lv, lc, -, ok⟩ := hI.knap hk
  obtain rfl : n = m + 1 := by omega
  by_cases h0 : m = 0
  · subst h0
    refine (topbest_zero 1 cap _ _ _ W).mono ?_
    rintro e w' ⟨rfl, hb'⟩
    exact ⟨⟨0, _, _, _, rfl, best1_zero _ _ hcap.1, by unfold inB; omega⟩, hb'⟩
  · have hwf := subK_wf hI hk hn hkm (by omega) hcap
    have hl1 : (subK I k m cap).ws.length = m := del_len lw hkm
    have hl2 : (subK I k m cap).vs.length = m := del_len lv hkm
    have hl3 : (subK I k m cap).cost.length = 0 := by show I.cost.length = 0; rw [lc]; rfl
    have hat : InstAt W (.agg #[.int .i64 1, .int .i64 (m : Int), .int .i64 cap, .slice A m c, .slice B m d, .slice none 0 0]) (subK I k m cap) := by
      refine ⟨A, c, B, d, none, 0, ?_, by omega, by omega, by omega, by unfold big; omega, by unfold big; omega, by omega, fun r => ?_, hA.keep hW, hB.keep hW, fun h => by omega⟩
      · rw [hl1, hl2, hl3]
        show _ = Value.agg #[.int .i64 I.kind, .int .i64 (m : Int), .int .i64 cap, .slice A m c, .slice B m d, .slice none 0 0]
        rw [hk]
      · rw [List.getD_eq_getElem?_getD, List.getElem?_eq_none (by omega)]; exact Nat.zero_le _
    refine (topbest_any (subK I k m cap) hwf ⟨fun _ => by show (m : Int) ≤ 18; omega, fun e => by have : I.kind = 3 := e; omega⟩ _ W hat (hT.keep hW)).mono ?_
    rintro e w' ⟨x, Ax, cx, rfl, hox, -, -, hb'⟩
    refine ⟨⟨_, _, _, _, rfl, (hox.best1 (I := subK I k m cap) hk rfl).congr (fun j hj => del_get lw hkm hj) (fun j hj => del_get lv hkm hj), ?_⟩, hb'⟩
    have := cost_range1 hwf hox.1 hk
    unfold inB; omega
end Go.Proofs.YtmfgffmlnfimcaaDoor
