/- slices.Clone at whatever slice of ints; the walk of inst.Copy. -/
import Derived.Test.YtmfgffmlnfimcaaDoorO
import Derived.Test.YtmfgffmlnfimcaaDoorQ
import Derived.Deep.RegionWith
import Derived.Deep.DeepCutAuto
namespace Go.Proofs.YtmfgffmlnfimcaaDoor
open Go Go.RowKit Go.Shelf Go.Sort

theorem spot_none {w : World} {a : Addr} {v : Value} (h : w.cell? a = some v) : a = ⟨a.block, a.off, none⟩ := by
  obtain ⟨b, o, s⟩ := a
  cases s with
  | none => rfl
  | some s => simp only [World.cell?] at h; split at h <;> simp_all

theorem OwnI.form {w : World} {base : Nat} {v : Value} {xs : List Int} (h : OwnI w base v xs) : ∃ A c, v = .slice A xs.length c := by
  rcases h.2 with ⟨e, h2⟩ | ⟨g, cap, cur, e, _⟩
  · exact ⟨none, 0, by rw [e, h2]⟩
  · exact ⟨_, _, e⟩

/-- slices.Clone of whatever ints. -/
theorem clone_0 (A : Option Addr) (c : Nat) (xs : List Int) (w : World) (hA : IntsAt w A xs) (hb : xs.length ≤ big) (hc : xs.length ≤ c) :
    Calls Tryd.prog 25 #[.slice A xs.length c] w fun e w' => (∃ v', e = .returned v' ∧ OwnI w' w.heap.size v' xs) ∧ Below w.heap.size w w' := by
  cases A with
  | none =>
    have h0 : xs = [] := by
      rcases Nat.eq_zero_or_pos xs.length with h | h
      · exact List.eq_nil_of_length_eq_zero h
      · obtain ⟨ad, e, _⟩ := hA h; cases e
    subst h0
    refine (Any.slices_Clone_int_nil Tryd.laysNm215 _ c w).mono ?_
    rintro e w' ⟨rfl, rfl⟩
    exact ⟨⟨_, rfl, OwnI.nil _ _⟩, Below.refl _ _⟩
  | some ad =>
    rcases Nat.eq_zero_or_pos xs.length with h | h
    · have h0 := List.eq_nil_of_length_eq_zero h
      subst h0
      refine (Any.slices_Clone_int_zero Tryd.laysNm215 ad c w).mono ?_
      rintro e w' ⟨v', rfl, h1, _, h2⟩
      exact ⟨⟨_, rfl, h1⟩, h2⟩
    · obtain ⟨ad', e, hcs⟩ := hA h
      cases e
      have h0 := hcs 0 h
      have hsp := spot_none (show w.cell? ad = some _ from h0)
      rw [hsp] at hcs ⊢
      refine (Any.slices_Clone_int Tryd.laysNm215 ad.block ad.off xs.length c xs w (Nat.le_refl _) (by unfold big at hb; omega) fun j hj => ?_).mono ?_
      · have h1 := hcs j hj
        by_cases e : j = 0
        · subst e; exact h1
        · rw [add_pos _ (by omega)] at h1; exact h1
      · rintro e w' ⟨v', rfl, h1, _, h2⟩
        refine ⟨⟨_, rfl, ?_⟩, h2⟩
        rw [List.take_length] at h1
        exact h1

theorem clone_any (A : Option Addr) (c : Nat) (xs : List Int) (w : World) (hA : IntsAt w A xs) (hb : xs.length ≤ big) (hc : xs.length ≤ c) :
    Calls Tryd.prog 25 #[.slice A xs.length c] w fun e w' => (∃ A' c', e = .returned (.slice A' xs.length c') ∧ OwnI w' w.heap.size (.slice A' xs.length c') xs) ∧ Below w.heap.size w w' := by
  refine (clone_0 A c xs w hA hb hc).mono ?_
  rintro e w' ⟨⟨v', rfl, h1⟩, h2⟩
  obtain ⟨A', c', rfl⟩ := h1.form
  exact ⟨⟨A', c', rfl, h1⟩, h2⟩

theorem OwnI.keep {w w' : World} {base : Nat} {v : Value} {xs : List Int} (h : OwnI w base v xs) (hb : Below w.heap.size w w') : OwnI w' base v xs := by
  refine ⟨h.1, ?_⟩
  rcases h.2 with h2 | ⟨g, cap, cur, e, hb', hg, r⟩
  · exact .inl h2
  · exact .inr ⟨g, cap, cur, e, hb', heap_keep hg hb, r⟩
theorem OwnI.far {w : World} {base : Nat} {v : Value} {xs : List Int} (h : OwnI w base v xs) {a : Addr} (ha : a.block < base) (u : Value) : OwnI (w.setCell a u) base v xs := ownsRow_setCell_below h ha u
theorem OwnI.mono {w : World} {base base' : Nat} {v : Value} {xs : List Int} (h : OwnI w base v xs) (hb : base' ≤ base) : OwnI w base' v xs := by
  refine ⟨h.1, ?_⟩
  rcases h.2 with h2 | ⟨g, cap, cur, e, hb', r⟩
  · exact .inl h2
  · exact .inr ⟨g, cap, cur, e, by omega, r⟩

theorem OwnI.arr {w : World} {base : Nat} {v : Value} {xs : List Int} (h : OwnI w base v xs) (hx : xs ≠ []) :
    ∃ g cap, v = .slice (some ⟨g, 0, none⟩) xs.length cap ∧ base ≤ g ∧ xs.length ≤ cap ∧ Arr w g xs.length (fun j => xs.getD j 0) := by
  obtain ⟨_, h2⟩ := h
  rcases h2 with ⟨_, h3⟩ | ⟨g, cap, cur, e, hb, hg, hn, hcm, hcs, ht⟩
  · exact absurd (List.eq_nil_of_length_eq_zero h3) hx
  · refine ⟨g, cap, e, hb, hn, cur, hg, by omega, fun j hj => ?_⟩
    have h4 : (cur.toList.take (xs.length * 1))[j]? = (xs.map (Value.int .i64))[j]? := by rw [ht]
    rw [List.getElem?_take, if_pos (by omega), List.getElem?_map, List.getElem?_eq_getElem hj, Array.getElem?_toList] at h4
    rw [h4]
    simp [hj]

theorem OwnI.blockLt {w : World} {base : Nat} {v : Value} {xs : List Int} (h : OwnI w base v xs) {k : Nat} (hk : v.ownBlock = some k) : k < w.heap.size := by
  rcases h.2 with ⟨e, _⟩ | ⟨g, cap, cur, e, hb', hg, r⟩
  · rw [e] at hk; cases hk
  · rw [e] at hk; cases hk; exact heap_lt hg
theorem OwnI.blockGe {w : World} {base : Nat} {v : Value} {xs : List Int} (h : OwnI w base v xs) {k : Nat} (hk : v.ownBlock = some k) : base ≤ k := by
  rcases h.2 with ⟨e, _⟩ | ⟨g, cap, cur, e, hb', hg, r⟩
  · rw [e] at hk; cases hk
  · rw [e] at hk; cases hk; exact hb'
theorem below_eqh' {w W w' : World} (h : Below W.heap.size W w') (a : W.heap = w.heap) (b : W.os = w.os) (c : W.tape = w.tape) (d : W.output = w.output) : Below w.heap.size w w' :=
  ⟨h.os.trans b, h.tape.trans c, h.output.trans d, by rw [← a]; exact h.size, fun k hk => by rw [← a] at hk ⊢; exact h.block k hk⟩
theorem below_like2 {w W : World} (o o2 : Obj) (h1 : W.os = w.os) (h2 : W.tape = w.tape) (h3 : W.output = w.output) (h4 : W.heap = ((w.alloc o).alloc o2).heap) : Below w.heap.size w W := by
  have h := ((Below.refl w.heap.size w).alloc (Nat.le_refl _) o).alloc (by simp) o2
  exact ⟨h1, h2, h3, by rw [h4]; exact h.size, fun k hk => by rw [h4]; exact h.block k hk⟩

/-- What lies behind the first assignment of Copy: two clones in the box. -/
def Two (I : Inst) (w : World) (l3 : Nat) (A3 : Option Addr) (c3 : Nat) (wc : World) : Prop :=
  ∃ v8 v11, wc.heap[w.heap.size]? = some (.cells #[.int .i64 I.kind, .int .i64 I.n, .int .i64 I.cap, v8, v11, .slice A3 l3 c3] 25 (0, 0)) ∧
    OwnI wc (w.heap.size + 2) v8 I.ws ∧ OwnI wc (w.heap.size + 2) v11 I.vs ∧ (∀ k, v8.ownBlock = some k → v11.ownBlock ≠ some k) ∧ Below w.heap.size w wc ∧
    wc.heap[w.heap.size + 1]? = some (.cells #[.int .i64 0, .int .i64 0, .int .i64 0, .slice none 0 0, .slice none 0 0, .slice none 0 0] 25 (0, 0)) ∧ w.heap.size + 2 ≤ wc.heap.size

theorem two_ok {I : Inst} {w : World} {l1 c1 l2 c2 l3 c3 : Nat} {A1 A2 A3 : Option Addr} {v8 v11 : Value} {Wf Wa W1 W2 : World} (hWa : Wa.heap = Wf.heap) (hWo : Wa.os = Wf.os ∧ Wa.tape = Wf.tape ∧ Wa.output = Wf.output) (hWf : Wf = (w.alloc (.cells #[.int .i64 I.kind, .int .i64 I.n, .int .i64 I.cap, .slice A1 l1 c1, .slice A2 l2 c2, .slice A3 l3 c3] 25)).alloc (.cells #[.int .i64 0, .int .i64 0, .int .i64 0, .slice none 0 0, .slice none 0 0, .slice none 0 0] 25))
    (hb1 : Below Wa.heap.size Wa W1) (hb2 : Below W1.heap.size W1 W2) (h : (OwnI W1 Wa.heap.size v8 I.ws ∧ OwnI W2 W1.heap.size v11 I.vs) ∨ (OwnI W1 Wa.heap.size v11 I.vs ∧ OwnI W2 W1.heap.size v8 I.ws)) :
    Two I w l3 A3 c3 ((W2.setCell ⟨w.heap.size, 3, none⟩ v8).setCell ⟨w.heap.size, 4, none⟩ v11) := by
  have hz : Wf.heap.size = w.heap.size + 2 := by rw [hWf]; simp
  have hz1 := hb1.size
  have hz2 := hb2.size
  rw [hWa] at hz1
  have hbw : Below w.heap.size w Wf := by rw [hWf]; exact ((Below.refl _ _).alloc (Nat.le_refl _) _).alloc (by simp) _
  have hbw1 : Below w.heap.size w W1 := keep_trans hbw (below_eqh' hb1 hWa hWo.1 hWo.2.1 hWo.2.2)
  have hbw2 : Below w.heap.size w W2 := keep_trans hbw1 hb2
  have hbf : Wf.heap[w.heap.size]? = some (.cells #[.int .i64 I.kind, .int .i64 I.n, .int .i64 I.cap, .slice A1 l1 c1, .slice A2 l2 c2, .slice A3 l3 c3] 25 (0, 0)) := by rw [hWf]; exact heap_old' (heap_new w _ _ rfl) _
  have hbf2 : Wf.heap[w.heap.size + 1]? = some (.cells #[.int .i64 0, .int .i64 0, .int .i64 0, .slice none 0 0, .slice none 0 0, .slice none 0 0] 25 (0, 0)) := by rw [hWf]; exact heap_new _ _ _ (by simp)
  have hb12 : Below Wf.heap.size Wf W2 := (below_eqh' hb1 hWa hWo.1 hWo.2.1 hWo.2.2).trans (hb2.mono hz1)
  have hB := heap_keep hbf hb12
  have hB2 := heap_keep hbf2 hb12
  have hap : OwnI W2 (w.heap.size + 2) v8 I.ws ∧ OwnI W2 (w.heap.size + 2) v11 I.vs ∧ (∀ k, v8.ownBlock = some k → v11.ownBlock ≠ some k) := by
    rcases h with ⟨h1, h2⟩ | ⟨h1, h2⟩
    · refine ⟨(h1.keep hb2).mono (by rw [hWa]; omega), h2.mono (by omega), fun k hk1 hk2 => ?_⟩
      have a := OwnI.blockLt h1 hk1
      have b := OwnI.blockGe h2 hk2
      omega
    · refine ⟨h2.mono (by omega), (h1.keep hb2).mono (by rw [hWa]; omega), fun k hk1 hk2 => ?_⟩
      have a := OwnI.blockLt h1 hk2
      have b := OwnI.blockGe h2 hk1
      omega
  refine ⟨v8, v11, ?_, (hap.1.far (by show w.heap.size < _; omega) _).far (by show w.heap.size < _; omega) _, (hap.2.1.far (by show w.heap.size < _; omega) _).far (by show w.heap.size < _; omega) _, hap.2.2, (hbw2.setCell (p := ⟨w.heap.size, 3, none⟩) (Nat.le_refl _) _).setCell (p := ⟨w.heap.size, 4, none⟩) (Nat.le_refl _) _, ?_, ?_⟩
  · exact heap_set (heap_set hB 3 v8) 4 v11
  · exact heap_far (heap_far hB2 (by show w.heap.size + 1 ≠ w.heap.size; omega) _) (by show w.heap.size + 1 ≠ w.heap.size; omega) _
  · simp [World.setCell]; omega

/-- Rows that have been copied. -/
structure RowsO (w : World) (B : Nat) (v : Value) (xss : List (List Int)) (k : Nat) (r cp : Nat → Nat) : Prop where
  own : w.ownsRow B 22 1 v k ((List.range k).map fun j => .slice (some ⟨r j, 0, none⟩) (xss.getD j []).length (cp j))
  rows : ∀ j, j < k → (xss.getD j []).length ≤ cp j ∧ Arr w (r j) (xss.getD j []).length (fun i => (xss.getD j []).getD i 0) ∧ B ≤ r j ∧ v.ownBlock ≠ some (r j)
  inj : ∀ i j, i < k → j < k → r i = r j → i = j

theorem RowsO.nil (w : World) (B : Nat) (xss : List (List Int)) : RowsO w B (.slice none 0 0) xss 0 (fun _ => 0) (fun _ => 0) := ⟨World.ownsRow_nil w B 22 1, fun j h => by omega, fun i j h => by omega⟩

theorem own_block {w : World} {B : Nat} {t : TypeId} {v : Value} {k : Nat} {xs : List Value} (h : w.ownsRow B t 1 v k xs) {g : Nat} (e : v.ownBlock = some g) : B ≤ g ∧ g < w.heap.size := by
  rcases h.2 with ⟨e2, _⟩ | ⟨g0, cap, cur, e2, hb, hg, _⟩
  · rw [e2] at e; cases e
  · rw [e2] at e; cases e; exact ⟨hb, heap_lt hg⟩

/-- One row more. -/
theorem append_row {ops : Array Oper} {rest : List Oper} {o : Oper} {a : Act} {Q : Exit → Act → World → Prop} (hgd : o.guard = none) (s x : Operand)
    (ho : o.op = .call { callee := .builtin .append, args := #[s, x], argTypes := #[23, 23] }) (B : Nat) (v : Value) (k : Nat) (xs : List Value) (hs : a.eval s = v) (w : World) (hown : w.ownsRow B 22 1 v k xs) (u : Value) (hu : u.oneCell' = true)
    (hx : a.eval x = .slice (some ⟨w.heap.size, 0, none⟩) 1 1) (hl : k ≤ 17592186044000) (hk : (k + 1) * 24 ≤ 140737488355328) (hb : B ≤ w.heap.size)
    (h : ∀ v' w', w'.ownsRow B 22 1 v' (k + 1) (xs ++ [u]) → Below B w w' → (∀ g, g < w.heap.size → v.ownBlock ≠ some g → w'.heap[g]? = w.heap[g]?) → (v'.ownBlock = v.ownBlock ∨ v'.ownBlock = some (w.heap.size + 1)) → wpList Tryd.prog ops Q rest (a.put o.dst v') w') :
    wpList Tryd.prog ops Q (o :: rest) a (w.alloc (.cells #[u] 22)) := by
  obtain ⟨i, hi, hz0, hz1, hz2⟩ := info_parts (P := Tryd.prog) (e := 22) (z := .slice none 0 0) (size := 1) (bytes := 24) (by kernel_rfl)
  have hown' : (w.alloc (.cells #[u] 22)).ownsRow B 22 1 v k xs := by
    refine ⟨hown.1, ?_⟩
    rcases hown.2 with h2 | ⟨g, cap, cur, e, hb', hg, r⟩
    · exact .inl h2
    · exact .inr ⟨g, cap, cur, e, hb', heap_old' hg _, r⟩
  refine wpList_append_own_at _ hgd s x 23 ho B 22 i _ 1 24 Tryd.underlying23 hi hz0 hz1 hz2 rfl (by decide) v k xs hs hown' ⟨w.heap.size, 0, none⟩ 1 1 [u] hx rfl (cell_one_new _ _ _) ?_ ?_ hk ?_ ?_
  · intro z hz; simp at hz; subst hz; exact hu
  · unfold maxLen; omega
  · simp; omega
  · intro v' w' h1 h2 _ h4
    have hb1 : Below B w (w.alloc (.cells #[u] 22)) := (Below.refl _ _).alloc hb _
    refine h v' w' h1 ?_ (fun g hg hne => ?_) (by simpa using h4)
    · refine hb1.trans ((Below.refl B _).grown h2 (by simp; omega) fun g e => (own_block hown e).1)
    · exact (h2.block g (by simp; omega) (fun e => hne e.symm)).trans (Below.heap_alloc w _ g hg)

theorem own_keep {w w' : World} {B : Nat} {t : TypeId} {v : Value} {k : Nat} {xs : List Value} (h : w.ownsRow B t 1 v k xs) (hb : Below w.heap.size w w') : w'.ownsRow B t 1 v k xs := by
  refine ⟨h.1, ?_⟩
  rcases h.2 with h2 | ⟨g, cap, cur, e, hb', hg, r⟩
  · exact .inl h2
  · exact .inr ⟨g, cap, cur, e, hb', heap_keep hg hb, r⟩

theorem RowsO.more {wr w4 w5 : World} {B : Nat} {v v' : Value} {xss : List (List Int)} {k : Nat} {r cp : Nat → Nat} (h : RowsO wr B v xss k r cp) (hB : B ≤ wr.heap.size) (hb4 : Below wr.heap.size wr w4) {g c : Nat} (hg : wr.heap.size ≤ g) (hc : (xss.getD k []).length ≤ c)
    (ha : Arr w4 g (xss.getD k []).length (fun i => (xss.getD k []).getD i 0)) (h1 : w5.ownsRow B 22 1 v' (k + 1) ((List.range k).map (fun j => Value.slice (some ⟨r j, 0, none⟩) (xss.getD j []).length (cp j)) ++ [.slice (some ⟨g, 0, none⟩) (xss.getD k []).length c]))
    (h3 : ∀ g, g < w4.heap.size → v.ownBlock ≠ some g → w5.heap[g]? = w4.heap[g]?) (h4 : v'.ownBlock = v.ownBlock ∨ v'.ownBlock = some (w4.heap.size + 1)) : RowsO w5 B v' xss (k + 1) (upd r k g) (upd cp k c) := by
  have hs4 := hb4.size
  have row : ∀ (q n : Nat) (f : Nat → Int), Arr w4 q n f → v.ownBlock ≠ some q → Arr w5 q n f := by
    intro q n f hq hne
    have hql := Row.lt hq
    obtain ⟨cs, e1, e2⟩ := hq
    exact ⟨cs, by rw [h3 q hql hne]; exact e1, e2⟩
  have hvg : v.ownBlock ≠ some g := fun e => by have := (own_block h.own e).2; omega
  have hgl := Row.lt ha
  refine ⟨?_, fun j hj => ?_, fun i j hi hj e => ?_⟩
  · rw [List.range_succ, List.map_append]
    have e : (List.range k).map (fun j => Value.slice (some ⟨upd r k g j, 0, none⟩) (xss.getD j []).length (upd cp k c j)) = (List.range k).map (fun j => Value.slice (some ⟨r j, 0, none⟩) (xss.getD j []).length (cp j)) := by
      refine List.map_congr_left fun j hj => ?_
      have := List.mem_range.1 hj
      rw [upd_other _ (by omega), upd_other _ (by omega)]
    rw [e]
    simpa [upd_same] using h1
  · by_cases e : j = k
    · subst e
      rw [upd_same, upd_same]
      refine ⟨hc, row _ _ _ ha hvg, by omega, ?_⟩
      rcases h4 with e | e
      · rw [e]; exact hvg
      · rw [e]; intro e2; have := Option.some.inj e2; omega
    · rw [upd_other _ e, upd_other _ e]
      obtain ⟨a, b, c, d⟩ := h.rows j (by omega)
      have hl := Row.lt b
      refine ⟨a, row _ _ _ (Row.keep (S := fun _ => False) b (Keep.of_below hb4) (fun h => h)) d, c, ?_⟩
      rcases h4 with e | e
      · rw [e]; exact d
      · rw [e]; intro e2; have := Option.some.inj e2; omega
  · have old : ∀ j, j < k → r j < wr.heap.size := fun j hj => Row.lt (h.rows j hj).2.1
    by_cases e1 : i = k
    · by_cases e2 : j = k
      · omega
      · rw [e1, upd_same, upd_other _ e2] at e
        have := old j (by omega); omega
    · by_cases e2 : j = k
      · rw [e2, upd_same, upd_other _ e1] at e
        have := old i (by omega); omega
      · rw [upd_other _ e1, upd_other _ e2] at e
        exact h.inj i j (by omega) (by omega) e

/-- What Copy tells: a problem's value whose rows are the call's own. -/
def Copied (I : Inst) (w : World) (v' : Value) (w' : World) : Prop :=
  ∃ A8 c8 A11 c11 A5 c5 r cp B, v' = .agg #[.int .i64 I.kind, .int .i64 I.n, .int .i64 I.cap, .slice A8 I.ws.length c8, .slice A11 I.vs.length c11, .slice A5 I.cost.length c5] ∧
    w.heap.size + 2 ≤ B ∧ OwnI w' (w.heap.size + 2) (.slice A8 I.ws.length c8) I.ws ∧ OwnI w' (w.heap.size + 2) (.slice A11 I.vs.length c11) I.vs ∧ (∀ k, (Value.slice A8 I.ws.length c8).ownBlock = some k → (Value.slice A11 I.vs.length c11).ownBlock ≠ some k) ∧
    RowsO w' B (.slice A5 I.cost.length c5) I.cost I.cost.length r cp ∧ Below w.heap.size w w'

theorem own_farB {w : World} {B : Nat} {t : TypeId} {v : Value} {k : Nat} {xs : List Value} (h : w.ownsRow B t 1 v k xs) {a : Addr} (ha : a.block < B) (u : Value) : (w.setCell a u).ownsRow B t 1 v k xs := ownsRow_setCell_below h ha u
theorem RowsO.far {w : World} {B : Nat} {v : Value} {xss : List (List Int)} {k : Nat} {r cp : Nat → Nat} (h : RowsO w B v xss k r cp) {a : Addr} (ha : a.block < B) (u : Value) : RowsO (w.setCell a u) B v xss k r cp :=
  ⟨own_farB h.own ha u, fun j hj => by
    obtain ⟨e1, e2, e3, e4⟩ := h.rows j hj
    exact ⟨e1, Row.far e2 (by omega) u, e3, e4⟩, h.inj⟩

set_option maxHeartbeats 2000000 in
theorem copy_any (I : Inst) (v : Value) (w : World) (hv : InstAt w v I) (h64 : I.cost.length ≤ 64) (hne : ∀ j, j < I.cost.length → I.cost.getD j [] ≠ []) (hbg : ∀ r, (I.cost.getD r []).length ≤ big) : Calls Tryd.prog 17 #[v] w fun e w' => ∃ v', e = .returned v' ∧ Copied I w v' w' := by
  obtain ⟨A1, c1, A2, c2, A3, c3, rfl, h1, h2, h3, h4, h5, h6, h7, h8, h9, h10⟩ := hv
  have hc1 := fun W hW => clone_any A1 c1 I.ws W (h8.keep hW) h4 h1
  have hc2 := fun W hW => clone_any A2 c2 I.vs W (h9.keep hW) h5 h2
  have H10 := Lib.hid h10
  clear h8 h9 h10 h4 h5 h7
  generalize I.ws.length = l1 at *
  generalize I.vs.length = l2 at *
  generalize hL3 : I.cost.length = l3 at *
  have HL3 := Lib.hid hL3
  clear hL3
  obtain ⟨Wf, hWf⟩ : ∃ Wf, (w.alloc (.cells #[.int .i64 I.kind, .int .i64 I.n, .int .i64 I.cap, .slice A1 l1 c1, .slice A2 l2 c2, .slice A3 l3 c3] 25)).alloc (.cells #[.int .i64 0, .int .i64 0, .int .i64 0, .slice none 0 0, .slice none 0 0, .slice none 0 0] 25) = Wf := ⟨_, rfl⟩
  have hbf : Below w.heap.size w Wf := by rw [← hWf]; exact ((Below.refl _ _).alloc (Nat.le_refl _) _).alloc (by simp) _
  have hbW : ∀ W : World, W.heap = Wf.heap → W.os = Wf.os → W.tape = Wf.tape → W.output = Wf.output → Below w.heap.size w W := fun W a b c d =>
    ⟨b.trans hbf.os, c.trans hbf.tape, d.trans hbf.output, by rw [a]; exact hbf.size, fun k hk => by rw [a]; exact hbf.block k hk⟩
  have hA1 := fun (W : World) a b c d => hc1 W (hbW W a b c d)
  have hB1 := fun (W : World) a b c d => hc2 W (hbW W a b c d)
  have hA2 := fun (W w4 : World) (h : Below W.heap.size W w4) a b c d => hc1 w4 (keep_trans (hbW W a b c d) h)
  have hB2 := fun (W w4 : World) (h : Below W.heap.size W w4) a b c d => hc2 w4 (keep_trans (hbW W a b c d) h)
  have hBX : ∀ W w4 w5 : World, Below W.heap.size W w4 → Below w4.heap.size w4 w5 → W.heap = Wf.heap → W.os = Wf.os → W.tape = Wf.tape → W.output = Wf.output →
      w5.heap[w.heap.size]? = some (.cells #[.int .i64 I.kind, .int .i64 I.n, .int .i64 I.cap, .slice A1 l1 c1, .slice A2 l2 c2, .slice A3 l3 c3] 25 (0, 0)) := fun W w4 w5 h1 h2 a b c d => by
    have hB : Wf.heap[w.heap.size]? = some (.cells #[.int .i64 I.kind, .int .i64 I.n, .int .i64 I.cap, .slice A1 l1 c1, .slice A2 l2 c2, .slice A3 l3 c3] 25 (0, 0)) := by rw [← hWf]; exact heap_old' (heap_new w _ _ rfl) _
    exact heap_keep hB (keep_trans (below_eqh' h1 a b c d) h2)
  rw [← hWf] at hA1 hB1 hA2 hB2 hBX
  have HBX := Lib.hid hBX
  have HA1 := Lib.hid hA1
  have HB1 := Lib.hid hB1
  have HA2 := Lib.hid hA2
  have HB2 := Lib.hid hB2
  clear hA1 hB1 hA2 hB2 hbW hc1 hc2 hbf hBX
  subst hWf
  go_enter Tryd.func17, Tryd.ntmps17
  go_upto_region 1 with (fail)
  go_cut [] (fun wc => Hid (Two I w l3 A3 c3 wc))
  case first =>
    go_region_with (first
      | (go_at_call 25; refine (HA2.out _ _ hb4 (by rfl) (by rfl) (by rfl) (by rfl)).mono ?_; rintro e w5 ⟨⟨A5, c5, rfl, hown5⟩, hb5⟩; have hbx := HBX.out _ _ _ hb4 hb5 (by rfl) (by rfl) (by rfl) (by rfl); have y3 := blk_cell hbx 3; have y4 := blk_cell hbx 4; have z3 := blk_free hbx 3; have z4 := blk_free hbx 4)
      | (go_at_call 25; refine (HB2.out _ _ hb4 (by rfl) (by rfl) (by rfl) (by rfl)).mono ?_; rintro e w5 ⟨⟨A5, c5, rfl, hown5⟩, hb5⟩; have hbx := HBX.out _ _ _ hb4 hb5 (by rfl) (by rfl) (by rfl) (by rfl); have y3 := blk_cell hbx 3; have y4 := blk_cell hbx 4; have z3 := blk_free hbx 3; have z4 := blk_free hbx 4)
      | (go_at_call 25; refine (HA1.out _ (by rfl) (by rfl) (by rfl) (by rfl)).mono ?_; rintro e w4 ⟨⟨A4, c4, rfl, hown4⟩, hb4⟩; have hbx := HBX.out _ _ _ hb4 (Below.refl _ _) (by rfl) (by rfl) (by rfl) (by rfl); have y3 := blk_cell hbx 3; have y4 := blk_cell hbx 4)
      | (go_at_call 25; refine (HB1.out _ (by rfl) (by rfl) (by rfl) (by rfl)).mono ?_; rintro e w4 ⟨⟨A4, c4, rfl, hown4⟩, hb4⟩; have hbx := HBX.out _ _ _ hb4 (Below.refl _ _) (by rfl) (by rfl) (by rfl) (by rfl); have y3 := blk_cell hbx 3; have y4 := blk_cell hbx 4)
      | fail)
    all_goals go_wp2
    all_goals go_meet
    all_goals exact Lib.hid (two_ok (by rfl) ⟨by rfl, by rfl, by rfl⟩ rfl hb4 hb5 (.inl ⟨hown4, hown5⟩))
  case rest =>
    obtain ⟨v8, v11, hbx, ho8, ho11, hap, hBw, hb2, hsz⟩ := hcut.out
    obtain ⟨A8, c8, rfl⟩ := ho8.form
    obtain ⟨A11, c11, rfl⟩ := ho11.form
    have HTW := Lib.hid (And.intro hbx (And.intro ho8 (And.intro ho11 (And.intro hap (And.intro hBw hb2)))))
    have q5 := blk_cell hbx 5
    clear hbx ho8 ho11 hap hBw hb2 hcut
    clear h6
    go_wp2
    go_loopg [3, 17] l3 (fun g v3 v17 wr => ∃ (k : Nat) (r cp : Nat → Nat), v17 = .int .i64 k ∧ k + g = l3 ∧ Hid (RowsO wr wc.heap.size v3 I.cost k r cp) ∧ Hid (Below wc.heap.size wc wr))
    case atStart => exact ⟨0, _, _, rfl, by omega, Lib.hid (RowsO.nil _ _ _), Lib.hid (Below.refl _ _)⟩
    case round =>
      obtain ⟨k, r, cp, rfl, hk, HR, HB⟩ := hrel
      by_cases ck : k < l3
      · have hki : (k : Int) < (l3 : Int) := by omega
        have hBr : Below w.heap.size w wr := HTW.out.2.2.2.2.1.trans (HB.out.mono (by omega))
        obtain ⟨ad, Br, cr, e1, hx, hxc, hBA⟩ := (H10.out.keep hBr).at_ (j := k) (by rw [HL3.out]; exact ck)
        subst e1
        have hcl := Lib.hid (fun W hA => clone_any Br cr (I.cost.getD k []) W hA (hbg k) hxc)
        have HBA := Lib.hid hBA
        have HNE := Lib.hid (hne k ck)
        obtain ⟨lr, hlr⟩ : ∃ x, (I.cost.getD k []).length = x := ⟨_, rfl⟩
        have HLR := Lib.hid hlr
        rw [hlr] at hx hxc hcl
        clear hBA hBr hlr
        go_wp2_with fail
        refine (hcl.out _ HBA.out).mono ?_
        rintro e w4 ⟨⟨A', c', rfl, hown⟩, hb4⟩
        obtain ⟨g, c'', e, hg, hc', hA⟩ := hown.arr HNE.out
        rw [HLR.out] at e hc' hA
        cases e
        have HQ := Lib.hid (And.intro hg (And.intro hc' (And.intro hA hb4)))
        have hB4 : wc.heap.size ≤ w4.heap.size := by have := hb4.size; have := HB.out.size; omega
        have hk24 : (k + 1) * 24 ≤ 140737488355328 := by omega
        have hk25 : k ≤ 17592186044000 := by omega
        clear hown hg hA hb4
        go_wp2_with (at_builtin; refine append_row rfl _ _ rfl wc.heap.size u3 k _ rfl w4 (own_keep HR.out.own HQ.out.2.2.2) (.slice (some ⟨g, 0, none⟩) lr c') rfl rfl hk25 hk24 hB4 ?_)
        intro v5 w5 h1 h2 h3 h4
        have HX := Lib.hid (And.intro h1 (And.intro h2 (And.intro h3 h4)))
        clear h1 h2 h3 h4
        go_wp2
        go_roundg (gk - 1)
        case measure => omega
        case rel =>
          obtain ⟨h1, h2, h3, h4⟩ := HX.out
          obtain ⟨hg, hc2, hA, hb4⟩ := HQ.out
          refine ⟨k + 1, upd r k g, upd cp k c', by go_num, by omega, Lib.hid ?_, Lib.hid ((HB.out.trans (hb4.mono HB.out.size)).trans h2)⟩
          have e := HLR.out
          exact RowsO.more HR.out HB.out.size hb4 hg (by rw [e]; exact hc2) (by rw [e]; exact hA) (by rw [e]; exact h1) h3 h4
      · have ek : k = l3 := by omega
        subst ek
        obtain ⟨A5, c5, hu3⟩ : ∃ A c, u3 = .slice A k c := by
          rcases HR.out.own.2 with ⟨e, h0⟩ | ⟨g, cap, cur, e, _⟩
          · exact ⟨none, 0, by rw [e, h0]⟩
          · exact ⟨_, _, e⟩
        subst hu3
        have hb1 := (HB.out.block _ (by omega)).trans HTW.out.1
        have hb2 := (HB.out.block _ (by omega)).trans HTW.out.2.2.2.2.2
        have y := fun j => blk_cell hb1 j
        have yf := fun j => blk_free hb1 j
        have z := fun j => blk_cell hb2 j
        have zf := fun j => blk_free hb2 j
        have y0 := y 0
        have y1 := y 1
        have y2 := y 2
        have y3 := y 3
        have y4 := y 4
        have y5 := y 5
        have z0 := z 0
        have z1 := z 1
        have z2 := z 2
        have z3 := z 3
        have z4 := z 4
        have z5 := z 5
        have HBB := Lib.hid (And.intro hb1 hb2)
        have l1' := heap_lt hb1
        have l2' := heap_lt hb2
        clear hb1 hb2 q5 y z
        go_wp2
        obtain ⟨hb1, hb2⟩ := HBB.out
        have hset := heap_set (heap_set (heap_set (heap_set (heap_set (heap_set (heap_far hb2 (by show w.heap.size + 1 ≠ w.heap.size; omega) (.slice A5 k c5) (p := ⟨w.heap.size, 5, none⟩)) 0 (.int .i64 I.kind)) 1 (.int .i64 I.n)) 2 (.int .i64 I.cap)) 3 (.slice A8 I.ws.length c8)) 4 (.slice A11 I.vs.length c11)) 5 (.slice A5 k c5)
        have c0 := blk_cell hset 0
        have c1' := blk_cell hset 1
        have c2' := blk_cell hset 2
        have c3' := blk_cell hset 3
        have c4' := blk_cell hset 4
        have c5' := blk_cell hset 5
        simp at c0 c1' c2' c3' c4' c5'
        refine bodyPost_ret (v := .agg #[.int .i64 I.kind, .int .i64 I.n, .int .i64 I.cap, .slice A8 I.ws.length c8, .slice A11 I.vs.length c11, .slice A5 k c5]) ?_ rfl ?_
        · simp [results, Tryd.results17, go_sem, c0, c1', c2', c3', c4', c5']
        · have hsB := HB.out.size
          have f0 : w.heap.size < w.heap.size + 2 := by omega
          have f1 : w.heap.size + 1 < w.heap.size + 2 := by omega
          have g0 : w.heap.size < wc.heap.size := by omega
          have g1 : w.heap.size + 1 < wc.heap.size := by omega
          have o8 := HTW.out.2.1.keep (HB.out)
          have o11 := HTW.out.2.2.1.keep (HB.out)
          have bw := HTW.out.2.2.2.2.1.trans (HB.out.mono (by omega))
          have hRk := HR.out
          refine ⟨_, rfl, A8, c8, A11, c11, A5, c5, r, cp, wc.heap.size, by rw [HL3.out], hsz, ((((((o8.far (a := ⟨w.heap.size, 5, none⟩) f0 _).far (a := ⟨w.heap.size + 1, 0, none⟩) f1 _).far (a := ⟨w.heap.size + 1, 1, none⟩) f1 _).far (a := ⟨w.heap.size + 1, 2, none⟩) f1 _).far (a := ⟨w.heap.size + 1, 3, none⟩) f1 _).far (a := ⟨w.heap.size + 1, 4, none⟩) f1 _).far (a := ⟨w.heap.size + 1, 5, none⟩) f1 _,
            ((((((o11.far (a := ⟨w.heap.size, 5, none⟩) f0 _).far (a := ⟨w.heap.size + 1, 0, none⟩) f1 _).far (a := ⟨w.heap.size + 1, 1, none⟩) f1 _).far (a := ⟨w.heap.size + 1, 2, none⟩) f1 _).far (a := ⟨w.heap.size + 1, 3, none⟩) f1 _).far (a := ⟨w.heap.size + 1, 4, none⟩) f1 _).far (a := ⟨w.heap.size + 1, 5, none⟩) f1 _,
            HTW.out.2.2.2.1, ?_, ?_⟩
          · rw [HL3.out]
            exact ((((((hRk.far (a := ⟨w.heap.size, 5, none⟩) g0 _).far (a := ⟨w.heap.size + 1, 0, none⟩) g1 _).far (a := ⟨w.heap.size + 1, 1, none⟩) g1 _).far (a := ⟨w.heap.size + 1, 2, none⟩) g1 _).far (a := ⟨w.heap.size + 1, 3, none⟩) g1 _).far (a := ⟨w.heap.size + 1, 4, none⟩) g1 _).far (a := ⟨w.heap.size + 1, 5, none⟩) g1 _
          · exact ((((((bw.setCell (p := ⟨w.heap.size, 5, none⟩) (Nat.le_refl _) _).setCell (p := ⟨w.heap.size + 1, 0, none⟩) (Nat.le_succ _) _).setCell (p := ⟨w.heap.size + 1, 1, none⟩) (Nat.le_succ _) _).setCell (p := ⟨w.heap.size + 1, 2, none⟩) (Nat.le_succ _) _).setCell (p := ⟨w.heap.size + 1, 3, none⟩) (Nat.le_succ _) _).setCell (p := ⟨w.heap.size + 1, 4, none⟩) (Nat.le_succ _) _).setCell (p := ⟨w.heap.size + 1, 5, none⟩) (Nat.le_succ _) _
end Go.Proofs.YtmfgffmlnfimcaaDoor
