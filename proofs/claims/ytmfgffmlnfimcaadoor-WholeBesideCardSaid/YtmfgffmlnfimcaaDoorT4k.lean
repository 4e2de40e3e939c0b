/- The walk of WholeBeside at knapsacks. -/
import Derived.Test.YtmfgffmlnfimcaaDoorT4m
namespace Go.Proofs.YtmfgffmlnfimcaaDoor
open Go Go.RowKit Go.Shelf Go.Sort Go.Deep

/-- Two own lists, apart; nothing elder is touched. -/
structure L2 (w0 w : World) (u : Value) (l : List Int) (u' : Value) (l' : List Int) : Prop where
  own : OwnI w w0.heap.size u l
  own' : OwnI w w0.heap.size u' l'
  ap : ∀ k, u.ownBlock = some k → u'.ownBlock ≠ some k
  below : Below w0.heap.size w0 w
theorem L2.swap {w0 w : World} {u u' : Value} {l l' : List Int} (h : L2 w0 w u l u' l') : L2 w0 w u' l' u l := ⟨h.own', h.own, fun k e e2 => h.ap k e2 e, h.below⟩
theorem L2.same {w0 V : World} {u u' : Value} {l l' : List Int} (h : L2 w0 V u l u' l') (W : World) (a : W.heap = V.heap) (b : W.os = V.os) (c : W.tape = V.tape) (d : W.output = V.output) : L2 w0 W u l u' l' := by
  have hb : Below V.heap.size V W := ⟨b, c, d, by rw [a]; exact Nat.le_refl _, fun k _ => by rw [a]⟩
  exact ⟨h.own.keep hb, h.own'.keep hb, h.ap, below_eqhx h.below a b c d⟩
theorem fresh_own {V W : World} {base : Nat} (hb : base ≤ V.heap.size) (a : W.heap = (V.alloc (.cells #[] 3)).heap) : OwnI W base (.slice (some ⟨V.heap.size, 0, none⟩) 0 0) [] :=
  ⟨rfl, .inr ⟨V.heap.size, 0, #[], rfl, hb, by rw [a]; exact heap_new V _ _ rfl, Nat.le_refl _, Nat.zero_le _, rfl, rfl⟩⟩
theorem L2.start (w0 W : World) (a : W.heap = (w0.alloc (.cells #[] 3)).heap) (b : W.os = w0.os) (c : W.tape = w0.tape) (d : W.output = w0.output) : L2 w0 W (.slice (some ⟨w0.heap.size, 0, none⟩) 0 0) [] (.slice none 0 0) [] :=
  ⟨fresh_own (Nat.le_refl _) a, OwnI.nil _ _, (fun _ _ e => by cases e), below_like _ b c d a⟩
theorem L2.alloc2 {w0 V : World} {u : Value} {l : List Int} (h : L2 w0 V u l (.slice none 0 0) []) (W : World) (a : W.heap = (V.alloc (.cells #[] 3)).heap) (b : W.os = V.os) (c : W.tape = V.tape) (d : W.output = V.output) : L2 w0 W u l (.slice (some ⟨V.heap.size, 0, none⟩) 0 0) [] := by
  have hb : Below V.heap.size V W := below_like _ b c d a
  refine ⟨h.own.keep hb, fresh_own h.below.size a, fun k e e2 => ?_, h.below.trans (hb.mono h.below.size)⟩
  have := h.own.blockLt e
  have : V.heap.size = k := by cases e2; rfl
  omega
theorem L2.start2 (w0 W : World) (a : W.heap = ((w0.alloc (.cells #[] 3)).alloc (.cells #[] 3)).heap) (b : W.os = w0.os) (c : W.tape = w0.tape) (d : W.output = w0.output) : L2 w0 W (.slice (some ⟨w0.heap.size, 0, none⟩) 0 0) [] (.slice (some ⟨w0.heap.size + 1, 0, none⟩) 0 0) [] := by
  have h := (L2.start w0 (w0.alloc (.cells #[] 3)) rfl rfl rfl rfl).alloc2 W a b c d
  simpa using h

/-- A slice that came in, at the end of one of two own lists. -/
theorem step_beside {ops : Array Oper} {o : Oper} {a : Act} {K : Act → World → Prop} {Q : Exit → Act → World → Prop} {E : Prop} {s x : Operand} (hgd : o.guard = none) (ho : o.op = .call { callee := .builtin .append, args := #[s, x], argTypes := #[22, 22] }) (w0 : World) (v : Value) (xs : List Int) (hs : a.eval s = v) (w : World) (u' : Value) (l' : List Int) (hL : L2 w0 w v xs u' l') (A : Option Addr) (m c : Nat) (ys : List Int) (hy0 : ∀ W : World, Below w0.heap.size w0 W → ys.length = m ∧ ∃ ad, A = some ad ∧ ∀ j, j < m → W.cell? (ad.add j) = some (.int .i64 (ys.getD j 0)))
    (hx : a.eval x = .slice A m c) (hl : xs.length + m ≤ 1000000)
    (h : ∀ v' w', L2 w0 w' v' (xs ++ ys) u' l' → K (a.put o.dst v') w') :
    if Region.wanted o (yielded ops a.tmps) = true then Oper.wp Tryd.prog o a w K Q else E := by
  obtain ⟨dst, op, ty, pos, af, gd⟩ := o
  obtain rfl : gd = none := hgd
  obtain rfl : op = .call { callee := .builtin .append, args := #[s, x], argTypes := #[22, 22] } := ho
  obtain ⟨i, hi, hz0, hz1, hz2⟩ := info_parts (P := Tryd.prog) (e := 3) (z := .int .i64 0) (size := 1) (bytes := 8) (by kernel_rfl)
  rw [if_pos (by simp [Region.wanted])]
  obtain ⟨hym, ad, rfl, hyc⟩ := hy0 w hL.below
  have hs0 := hL.below.size
  obtain ⟨v', w', hr, h2, h3, h5⟩ := run_append_own_at (P := Tryd.prog) w w0.heap.size 22 ty 3 i _ 1 8 Tryd.underlying22 hi hz0 hz1 hz2 rfl (by decide) v xs.length (xs.map (Value.int .i64)) hL.own ad m c (ys.map (Value.int .i64)) (by simp [hym]) (fun j u hj => by
    have hjl : j < m := by
      rcases Nat.lt_or_ge j m with h1 | h1
      · exact h1
      · rw [List.getElem?_eq_none (by simp [hym, h1])] at hj; cases hj
    rw [hyc j hjl]
    rw [List.getElem?_map] at hj
    rw [List.getD_eq_getElem?_getD]
    cases hq : ys[j]? with
    | none => rw [hq] at hj; cases hj
    | some q => rw [hq] at hj; simpa using hj) (fun u hu => by
    obtain ⟨q, _, rfl⟩ := List.mem_map.1 hu
    rfl) (by unfold maxLen; omega) (by omega) hs0
  unfold Oper.wp execOp
  simp only [resolve, invoke, builtin, Sem.run_bind, Sem.run_pure, Result.andThen_ok, List.map_toArray, List.map_cons, List.map_nil, hs, hx, hr]
  have hk := keep_grown h3
  refine h v' w' ⟨?_, hL.own'.keepS hk fun k e e2 => hL.ap k e2.symm e, fun k e e2 => ?_, hL.below.trans (OwnI.below hL.own h3 hs0)⟩
  · unfold OwnI
    rw [List.length_append, List.map_append, hym]
    exact h2
  · have hlt := hL.own'.blockLt e2
    rcases h5.2 with h6 | h6
    · rw [h6] at e; exact hL.ap k e e2
    · rw [h6] at e
      have : w.heap.size = k := by cases e; rfl
      omega

/-- Two knapsacks in one. -/
def bothK (I J : Inst) (N : Nat) : Inst := { I with n := (N : Int), cap := I.cap + J.cap, ws := I.ws ++ J.ws, vs := I.vs ++ J.vs }
theorem app_r (l m : List Int) (j : Nat) : (l ++ m).getD (l.length + j) 0 = m.getD j 0 := by
  rw [List.getD_eq_getElem?_getD, List.getD_eq_getElem?_getD, List.getElem?_append_right (by omega), Nat.add_sub_cancel_left]
theorem app_l (l m : List Int) {j : Nat} (h : j < l.length) : (l ++ m).getD j 0 = l.getD j 0 := by simp [List.getD_eq_getElem?_getD, List.getElem?_append_left h]
theorem both1_fin {I J : Inst} (hk : I.kind = 1) (hk2 : J.kind = 1) {n1 n2 : Nat} (h1 : I.n = (n1 : Int)) (h2 : J.n = (n2 : Int)) (w1 : I.ws.length = n1) (v1 : I.vs.length = n1) {x y z : List Int} (hx : Opt I x) (hy : Opt J y) (hz : Opt (bothK I J (n1 + n2)) z) :
    costOf (bothK I J (n1 + n2)) z ≤ costOf I x + costOf J y := by
  refine beside1 (hx.best1 hk h1) (hy.best1 hk2 h2) (hz.best1 (I := bothK I J (n1 + n2)) hk (n := n1 + n2) rfl) (fun j hj => app_l _ _ (by omega)) (fun j hj => app_l _ _ (by omega)) (fun j hj => ?_) (fun j hj => ?_)
  · show (I.ws ++ J.ws).getD (n1 + j) 0 = J.ws.getD j 0
    rw [← w1, app_r]
  · show (I.vs ++ J.vs).getD (n1 + j) 0 = J.vs.getD j 0
    rw [← v1, app_r]
theorem bothK_at {I J : Inst} {w : World} {n1 n2 N : Nat} (hk : I.kind = 1) (hN : n1 + n2 = N) (h14 : N ≤ 14) (w1 : I.ws.length = n1) (v1 : I.vs.length = n1) (w2 : J.ws.length = n2) (v2 : J.vs.length = n2) (hc : I.cost = []) {Cap : Int} (hcap : I.cap + J.cap = Cap) {Aw Av : Option Addr} {cw cv : Nat}
    (hw : n1 + n2 ≤ cw) (hv : n1 + n2 ≤ cv) (iw : IntsAt w Aw (I.ws ++ J.ws)) (iv : IntsAt w Av (I.vs ++ J.vs)) :
    InstAt w (.agg #[.int .i64 1, .int .i64 (N : Int), .int .i64 Cap, .slice Aw N cw, .slice Av N cv, .slice none 0 0]) (bothK I J N) := by
  have l1 : (I.ws ++ J.ws).length = N := by rw [List.length_append]; omega
  have l2 : (I.vs ++ J.vs).length = N := by rw [List.length_append]; omega
  refine ⟨Aw, cw, Av, cv, none, 0, ?_, by show (I.ws ++ J.ws).length ≤ _; omega, by show (I.vs ++ J.vs).length ≤ _; omega, by show I.cost.length ≤ _; rw [hc]; exact Nat.le_refl _, by show (I.ws ++ J.ws).length ≤ _; unfold big; omega, by show (I.vs ++ J.vs).length ≤ _; unfold big; omega, by show I.cost.length ≤ _; rw [hc]; exact Nat.zero_le _, fun r => ?_, iw, iv, fun h => ?_⟩
  · show _ = Value.agg #[.int .i64 I.kind, .int .i64 (N : Int), .int .i64 (I.cap + J.cap), .slice _ (I.ws ++ J.ws).length _, .slice _ (I.vs ++ J.vs).length _, .slice _ I.cost.length _]
    rw [l1, l2, hc, hk, hcap]; rfl
  · show (I.cost.getD r []).length ≤ big
    rw [hc]; simp
  · have h2 : 0 < I.cost.length := h
    rw [hc] at h2; cases h2

/-- What region 7 reads of the two boxes. -/
def Nine (p n1 n2 : Nat) (Cap1 Cap2 : Int) (a1 a2 b1 b2 : Addr) (c1 c2 d1 d2 p11 : Nat) (V : World) : Prop :=
  V.cell? ⟨p, 2, none⟩ = some (.int .i64 Cap1) ∧ V.cell? ⟨p, 3, none⟩ = some (.slice (some a1) n1 c1) ∧ V.cell? ⟨p, 4, none⟩ = some (.slice (some a2) n1 c2) ∧
  V.cell? ⟨p + 1, 2, none⟩ = some (.int .i64 Cap2) ∧ V.cell? ⟨p + 1, 3, none⟩ = some (.slice (some b1) n2 d1) ∧ V.cell? ⟨p + 1, 4, none⟩ = some (.slice (some b2) n2 d2) ∧
  V.frozen? ⟨p11, 2, none⟩ = false ∧ V.frozen? ⟨p11, 3, none⟩ = false ∧ V.frozen? ⟨p11, 4, none⟩ = false ∧ V.cell? ⟨p11, 2, none⟩ = some (.int .i64 0) ∧ V.cell? ⟨p11, 3, none⟩ = some (.slice none 0 0) ∧ V.cell? ⟨p11, 4, none⟩ = some (.slice none 0 0)
theorem Nine.keep {p n1 n2 : Nat} {Cap1 Cap2 : Int} {a1 a2 b1 b2 : Addr} {c1 c2 d1 d2 p11 : Nat} {V V' : World} (h : Nine p n1 n2 Cap1 Cap2 a1 a2 b1 b2 c1 c2 d1 d2 p11 V) (hb : Below V.heap.size V V') : Nine p n1 n2 Cap1 Cap2 a1 a2 b1 b2 c1 c2 d1 d2 p11 V' := by
  obtain ⟨h1, h2, h3, h4, h5, h6, f1, f2, f3, g1, g2, g3⟩ := h
  have hf := World.block_lt_of_cell? _ _ g1
  exact ⟨cell_keep hb h1, cell_keep hb h2, cell_keep hb h3, cell_keep hb h4, cell_keep hb h5, cell_keep hb h6, (hb.frozen (p := ⟨p11, 2, none⟩) hf).trans f1, (hb.frozen (p := ⟨p11, 3, none⟩) hf).trans f2, (hb.frozen (p := ⟨p11, 4, none⟩) hf).trans f3, cell_keep hb g1, cell_keep hb g2, cell_keep hb g3⟩

/-- Behind region 7. -/
def FinB (I J : Inst) (N : Nat) (Cap : Int) (p11 : Nat) (w0 wc : World) : Prop :=
  ∃ Aw cw Av cv, wc.heap[p11]? = some (.cells #[.int .i64 1, .int .i64 (N : Int), .int .i64 Cap, .slice Aw N cw, .slice Av N cv, .slice none 0 0] 25 (0, 0)) ∧ N ≤ cw ∧ N ≤ cv ∧ IntsAt wc Aw (I.ws ++ J.ws) ∧ IntsAt wc Av (I.vs ++ J.vs) ∧ Below p11 w0 wc
theorem finB_ok {I J : Inst} {n1 n2 N : Nat} {Cap : Int} {w0 k4 Wf : World} {Aw Av : Option Addr} {cw cv : Nat} (hN : n1 + n2 = N) (w1 : I.ws.length = n1) (v1 : I.vs.length = n1) (w2 : J.ws.length = n2) (v2 : J.vs.length = n2) {p11 : Nat} (hp : p11 + 1 = w0.heap.size) (hb : w0.heap[p11]? = some (.cells #[.int .i64 1, .int .i64 (N : Int), .int .i64 0, .slice none 0 0, .slice none 0 0, .slice none 0 0] 25 (0, 0)))
    (g : L2 w0 k4 (.slice Av (([] : List Int) ++ I.vs ++ J.vs).length cv) ([] ++ I.vs ++ J.vs) (.slice Aw (([] : List Int) ++ I.ws ++ J.ws).length cw) ([] ++ I.ws ++ J.ws))
    (e1 : Wf.heap = (((k4.setCell ⟨p11, 2, none⟩ (.int .i64 Cap)).setCell ⟨p11, 3, none⟩ (.slice Aw (([] : List Int) ++ I.ws ++ J.ws).length cw)).setCell ⟨p11, 4, none⟩ (.slice Av (([] : List Int) ++ I.vs ++ J.vs).length cv)).heap) (e2 : Wf.os = k4.os) (e3 : Wf.tape = k4.tape) (e4 : Wf.output = k4.output) : FinB I J N Cap p11 w0 Wf := by
  rw [List.nil_append, List.nil_append] at g
  have l1 : (([] : List Int) ++ I.ws ++ J.ws).length = N := by rw [List.nil_append, List.length_append]; omega
  have l2 : (([] : List Int) ++ I.vs ++ J.vs).length = N := by rw [List.nil_append, List.length_append]; omega
  rw [l1, l2] at e1
  have hlt : p11 < w0.heap.size := by omega
  have hk := heap_keep hb g.below
  have far : ∀ (V : World) (v : Value) (xs : List Int) (j : Nat) (u : Value), OwnI V w0.heap.size v xs → OwnI (V.setCell ⟨p11, j, none⟩ u) w0.heap.size v xs := fun V v xs j u h => h.far (a := ⟨p11, j, none⟩) hlt u
  have ow := far _ _ _ 4 (.slice Av N cv) (far _ _ _ 3 (.slice Aw N cw) (far _ _ _ 2 (.int .i64 Cap) g.own'))
  have ov := far _ _ _ 4 (.slice Av N cv) (far _ _ _ 3 (.slice Aw N cw) (far _ _ _ 2 (.int .i64 Cap) g.own))
  have ints : ∀ {V V' : World} {A : Option Addr} {xs : List Int}, V'.heap = V.heap → IntsAt V A xs → IntsAt V' A xs := fun e h hn => by
    obtain ⟨ad, e5, hc⟩ := h hn
    exact ⟨ad, e5, fun j hj => by rw [← hc j hj]; simp only [World.cell?, e]⟩
  obtain ⟨A, c, e, hcw, iw⟩ := ow.at
  obtain ⟨A', c', e', hcv, iv⟩ := ov.at
  cases e
  cases e'
  have h1 : (I.ws ++ J.ws).length = N := by rw [List.length_append]; omega
  have h2 : (I.vs ++ J.vs).length = N := by rw [List.length_append]; omega
  refine ⟨Aw, cw, Av, cv, ?_, by omega, by omega, ints e1 iw, ints e1 iv, ?_⟩
  · rw [e1]
    have := heap_set (heap_set (heap_set hk 2 (.int .i64 Cap)) 3 (.slice Aw N cw)) 4 (.slice Av N cv)
    rw [this]; rfl
  · have b4 := (((g.below.mono (show p11 ≤ w0.heap.size by omega)).setCell (p := ⟨p11, 2, none⟩) (Nat.le_refl _) (.int .i64 Cap)).setCell (p := ⟨p11, 3, none⟩) (Nat.le_refl _) (.slice Aw N cw)).setCell (p := ⟨p11, 4, none⟩) (Nat.le_refl _) (.slice Av N cv)
    exact ⟨e2.trans b4.os, e3.trans b4.tape, e4.trans b4.output, by rw [e1]; exact b4.size, fun k hk => by rw [e1]; exact b4.block k hk⟩
end Go.Proofs.YtmfgffmlnfimcaaDoor
