/- The walk of WholeRaised at knapsacks; WholeRaised whole. -/
import Derived.Test.YtmfgffmlnfimcaaDoorT7
import Derived.Deep.RegionHeld3
import Derived.Deep.RegionLaw
import Derived.Test.YtmfgffmlnfimcaaDoorLo
import Derived.Deep.AppendLies
namespace Go.Proofs.YtmfgffmlnfimcaaDoor
open Go Go.RowKit Go.Shelf Go.Sort Go.Deep

/-- A knapsack with one item more, that weighs nothing. -/
def moreK (I : Inst) (n : Nat) (m : Int) : Inst := { I with n := ((n + 1 : Nat) : Int), ws := I.ws ++ [0], vs := I.vs ++ [m] }

theorem app_lt (l : List Int) (z : Int) {j : Nat} (h : j < l.length) : (l ++ [z]).getD j 0 = l.getD j 0 := by
  simp [List.getD_eq_getElem?_getD, List.getElem?_append_left h]
theorem app_at (l : List Int) (z : Int) : (l ++ [z]).getD l.length 0 = z := by simp [List.getD_eq_getElem?_getD]
theorem more1_eq {I : Inst} (hk : I.kind = 1) {n : Nat} (hn : I.n = (n : Int)) (hw : I.ws.length = n) (hv : I.vs.length = n) {m : Int} (hm : 0 ≤ m) {x y : List Int} (hx : Opt I x) (hy : Opt (moreK I n m) y) : costOf (moreK I n m) y = costOf I x := by
  have h1 := hy.best1 (I := moreK I n m) hk (n := n + 1) rfl
  have h2 := (hx.best1 hk hn).congr (ws' := gw (moreK I n m)) (vs' := gv (moreK I n m)) (fun j hj => (app_lt I.ws 0 (by omega)).symm) (fun j hj => (app_lt I.vs m (by omega)).symm)
  refine h1.eq (h2.free ?_ ?_)
  · show (I.ws ++ [0]).getD n 0 = 0
    rw [← hw]; exact app_at _ _
  · show 0 ≤ (I.vs ++ [m]).getD n 0
    rw [← hv, app_at]; exact hm
theorem cost_range1 {I : Inst} (hI : WF I) {x : List Int} (_ : Feas I x) (hk : I.kind = 1) : 0 ≤ costOf I x ∧ costOf I x ≤ 137438953408 := by
  obtain ⟨n, hn, -, h64, -, -, -, -, hok⟩ := hI.knap hk
  unfold costOf kC
  rw [if_pos hk, hn, Int.toNat_natCast]
  have := sumTo_range (k := n) (m := n) (f := fun j => if x.getD j 0 = 0 then I.vs.getD j 0 else 0) (Nat.le_refl n) (fun j hj => by
    have := (hok j hj).2
    unfold numOk at this
    split <;> omega)
  omega
theorem instAt_moreK {I : Inst} {w : World} {n : Nat} {m Cap : Int} (hk : I.kind = 1) (hcap : I.cap = Cap) (hw : I.ws.length = n) (hv : I.vs.length = n) (hc : I.cost = []) (hn : n ≤ 14) {base g8 g11 k8 k11 c5 : Nat} {A5 : Option Addr}
    (h8 : OwnI w base (.slice (some ⟨g8, 0, none⟩) (n + 1) k8) (I.ws ++ [0])) (h11 : OwnI w base (.slice (some ⟨g11, 0, none⟩) (n + 1) k11) (I.vs ++ [m])) :
    InstAt w (.agg #[.int .i64 1, .int .i64 ((n : Int) + 1), .int .i64 Cap, .slice (some ⟨g8, 0, none⟩) (n + 1) k8, .slice (some ⟨g11, 0, none⟩) (n + 1) k11, .slice A5 0 c5]) (moreK I n m) := by
  obtain ⟨A, c, e, hcc, hi⟩ := h8.at
  obtain ⟨A', c', e', hcc', hi'⟩ := h11.at
  have l1 : (I.ws ++ [0]).length = n + 1 := by rw [List.length_append, hw]; rfl
  have l2 : (I.vs ++ [m]).length = n + 1 := by rw [List.length_append, hv]; rfl
  rw [l1] at e hcc
  rw [l2] at e' hcc'
  cases e
  cases e'
  refine ⟨some ⟨g8, 0, none⟩, k8, some ⟨g11, 0, none⟩, k11, A5, c5, ?_, by show (I.ws ++ [0]).length ≤ _; omega, by show (I.vs ++ [m]).length ≤ _; omega, by show I.cost.length ≤ _; rw [hc]; exact Nat.zero_le _, by show (I.ws ++ [0]).length ≤ _; unfold big; omega, by show (I.vs ++ [m]).length ≤ _; unfold big; omega, by show I.cost.length ≤ _; rw [hc]; exact Nat.zero_le _, fun r => ?_, hi, hi', fun h => ?_⟩
  · show _ = Value.agg #[.int .i64 I.kind, .int .i64 ((n + 1 : Nat) : Int), .int .i64 I.cap, .slice _ (I.ws ++ [0]).length _, .slice _ (I.vs ++ [m]).length _, .slice _ I.cost.length _]
    rw [l1, l2, hc, hk, hcap]
    rfl
  · show (I.cost.getD r []).length ≤ big
    rw [hc]; simp
  · have h2 : 0 < I.cost.length := h
    rw [hc] at h2; cases h2

theorem below_eqhx {w W V : World} (h : Below w.heap.size w W) (a : V.heap = W.heap) (b : V.os = W.os) (c : V.tape = W.tape) (d : V.output = W.output) : Below w.heap.size w V :=
  ⟨b.trans h.os, c.trans h.tape, d.trans h.output, by rw [a]; exact h.size, fun k hk => by rw [a]; exact h.block k hk⟩

/-- One number more at the end: the law at a step of a region that draws its order. -/
theorem step_append_int {ops : Array Oper} {o : Oper} {a : Act} {K : Act → World → Prop} {Q : Exit → Act → World → Prop} {E : Prop} (hgd : o.guard = none) (s x : Operand)
    (ho : o.op = .call { callee := .builtin .append, args := #[s, x], argTypes := #[22, 22] }) (base : Nat) (v : Value) (xs : List Int) (hs : a.eval s = v) (w : World) (y : Int) (p : Nat) (hown : OwnI w base v xs ∧ w.cell? ⟨p, 0, none⟩ = some (.int .i64 y) ∧ base ≤ w.heap.size)
    (hx : a.eval x = .slice (some ⟨p, 0, none⟩) 1 1) (hl : xs.length ≤ 1000000)
    (h : ∀ g cap w', OwnI w' base (.slice (some ⟨g, 0, none⟩) (xs.length + 1) cap) (xs ++ [y]) → w.grownBy w' v.ownBlock → (v.ownBlock = some g ∨ g = w.heap.size) → K (a.put o.dst (.slice (some ⟨g, 0, none⟩) (xs.length + 1) cap)) w') :
    if Region.wanted o (yielded ops a.tmps) = true then Oper.wp Tryd.prog o a w K Q else E := by
  obtain ⟨i, hi, hz0, hz1, hz2⟩ := info_parts (P := Tryd.prog) (e := 3) (z := .int .i64 0) (size := 1) (bytes := 8) (by kernel_rfl)
  refine step_append_lies _ hgd s x 22 ho base 3 i (.int .i64 0) 1 8 Tryd.underlying22 hi hz0 hz1 hz2 rfl (by decide) v xs.length (xs.map (Value.int .i64)) hs hown.1 ⟨p, 0, none⟩ 1 1 [.int .i64 y] hx rfl ?_ ?_ (by decide) ?_ ?_ hown.2.2 _ rfl ?_
  · intro j u hj
    cases j with
    | zero =>
      simp at hj; subst hj
      rw [row_slice]; exact hown.2.1
    | succ j => simp at hj
  · intro u hu; simp at hu; subst hu; rfl
  · unfold maxLen; omega
  · omega
  · intro g cap w' h1 h2 h3 _
    refine h g cap w' ?_ h2 h3
    unfold OwnI
    rw [List.length_append, List.map_append]
    exact h1

theorem keep_grown {w w' : World} {r : Option Nat} (h : w.grownBy w' r) : Keep (fun k => some k = r) w w' := ⟨h.os, h.tape, h.output, h.size, fun k hk hs => h.block k hk hs⟩

/-- What is read of the copy's box. -/
def Six (p7 n : Nat) (A8 A11 : Option Addr) (c8 c11 : Nat) (V : World) : Prop :=
  V.cell? ⟨p7, 1, none⟩ = some (.int .i64 (n : Int)) ∧ V.cell? ⟨p7, 3, none⟩ = some (.slice A8 n c8) ∧ V.cell? ⟨p7, 4, none⟩ = some (.slice A11 n c11) ∧ V.frozen? ⟨p7, 1, none⟩ = false ∧ V.frozen? ⟨p7, 3, none⟩ = false ∧ V.frozen? ⟨p7, 4, none⟩ = false
theorem Six.mk {p7 n : Nat} {A8 A11 : Option Addr} {c8 c11 : Nat} {V : World} {k cap v5 : Value} (h : V.heap[p7]? = some (.cells #[k, .int .i64 (n : Int), cap, .slice A8 n c8, .slice A11 n c11, v5] 25 (0, 0))) : Six p7 n A8 A11 c8 c11 V :=
  ⟨blk_cell h 1, blk_cell h 3, blk_cell h 4, blk_free h 1, blk_free h 3, blk_free h 4⟩
theorem Six.heap {p7 n : Nat} {A8 A11 : Option Addr} {c8 c11 : Nat} {V V' : World} (h : Six p7 n A8 A11 c8 c11 V) (e : V'.heap[p7]? = V.heap[p7]?) : Six p7 n A8 A11 c8 c11 V' := by
  obtain ⟨h1, h2, h3, h4, h5, h6⟩ := h
  refine ⟨?_, ?_, ?_, ?_, ?_, ?_⟩
  · rw [World.cell?_of_block (w := V) (w' := V') (a := ⟨p7, 1, none⟩) e]; exact h1
  · rw [World.cell?_of_block (w := V) (w' := V') (a := ⟨p7, 3, none⟩) e]; exact h2
  · rw [World.cell?_of_block (w := V) (w' := V') (a := ⟨p7, 4, none⟩) e]; exact h3
  · rw [World.frozen?_of_block (w := V) (w' := V') (a := ⟨p7, 1, none⟩) e]; exact h4
  · rw [World.frozen?_of_block (w := V) (w' := V') (a := ⟨p7, 3, none⟩) e]; exact h5
  · rw [World.frozen?_of_block (w := V) (w' := V') (a := ⟨p7, 4, none⟩) e]; exact h6

/-- Behind both appends and the stores. -/
def Fin1 (I : Inst) (n : Nat) (m Cap : Int) (w : World) (p7 : Nat) (A1 A2 A3 A5 : Option Addr) (c1 c2 c3 c5 : Nat) (base : Nat) (wc : World) : Prop :=
  ∃ g8 k8 g11 k11, wc.heap[p7]? = some (.cells #[.int .i64 1, .int .i64 ((n : Int) + 1), .int .i64 Cap, .slice (some ⟨g8, 0, none⟩) (n + 1) k8, .slice (some ⟨g11, 0, none⟩) (n + 1) k11, .slice A5 0 c5] 25 (0, 0)) ∧
    OwnI wc base (.slice (some ⟨g8, 0, none⟩) (n + 1) k8) (I.ws ++ [0]) ∧ OwnI wc base (.slice (some ⟨g11, 0, none⟩) (n + 1) k11) (I.vs ++ [m]) ∧ Below w.heap.size w wc ∧
    wc.heap[w.heap.size]? = some (.cells #[.int .i64 1, .int .i64 (n : Int), .int .i64 Cap, .slice A1 n c1, .slice A2 n c2, .slice A3 0 c3] 25 (0, 0))

theorem fin1_ok {I : Inst} {n : Nat} {m Cap : Int} {w w0 : World} {p7 : Nat} {A1 A2 A3 A5 A8 A11 : Option Addr} {c1 c2 c3 c5 c8 c11 : Nat} {base : Nat} (hw : I.ws.length = n) (hv : I.vs.length = n) (hB : Below w.heap.size w w0) (hb : w.heap.size < base) (hbp : base ≤ p7)
    (hx : w0.heap[w.heap.size]? = some (.cells #[.int .i64 1, .int .i64 (n : Int), .int .i64 Cap, .slice A1 n c1, .slice A2 n c2, .slice A3 0 c3] 25 (0, 0)))
    (hp : w0.heap[p7]? = some (.cells #[.int .i64 1, .int .i64 (n : Int), .int .i64 Cap, .slice A8 n c8, .slice A11 n c11, .slice A5 0 c5] 25 (0, 0)))
    (h8 : ∀ k, (Value.slice A8 n c8).ownBlock = some k → k < p7 ∧ base ≤ k) (h11 : ∀ k, (Value.slice A11 n c11).ownBlock = some k → k < p7 ∧ base ≤ k) (hap : ∀ k, (Value.slice A8 n c8).ownBlock = some k → (Value.slice A11 n c11).ownBlock ≠ some k)
    {W wA W' wB Wf : World} {gA capA gB capB : Nat} (hW : Below w0.heap.size w0 W) (grA : W.grownBy wA (Value.slice A8 n c8).ownBlock) (oA : OwnI wA base (.slice (some ⟨gA, 0, none⟩) (I.ws.length + 1) capA) (I.ws ++ [0])) (bA : (Value.slice A8 n c8).ownBlock = some gA ∨ gA = W.heap.size)
    (hW' : Below wA.heap.size wA W') (grB : W'.grownBy wB (Value.slice A11 n c11).ownBlock) (oB : OwnI wB base (.slice (some ⟨gB, 0, none⟩) (I.vs.length + 1) capB) (I.vs ++ [m])) (bB : (Value.slice A11 n c11).ownBlock = some gB ∨ gB = W'.heap.size)
    (e1 : Wf.heap = (((wB.setCell ⟨p7, 1, none⟩ (.int .i64 ((n : Int) + 1))).setCell ⟨p7, 3, none⟩ (.slice (some ⟨gA, 0, none⟩) (I.ws.length + 1) capA)).setCell ⟨p7, 4, none⟩ (.slice (some ⟨gB, 0, none⟩) (I.vs.length + 1) capB)).heap) (e2 : Wf.os = wB.os) (e3 : Wf.tape = wB.tape) (e4 : Wf.output = wB.output) :
    Fin1 I n m Cap w p7 A1 A2 A3 A5 c1 c2 c3 c5 base Wf := by
  rw [hw] at oA
  rw [hv] at oB
  rw [hw, hv] at e1
  have hpl := heap_lt hp
  have s1 := hW.size
  have s2 := grA.size
  have s3 := hW'.size
  have hbA := heap_lt hx
  have kA := keep_grown grA
  have kB := keep_grown grB
  have n8 : ¬ (some p7 = (Value.slice A8 n c8).ownBlock) := fun e => by have := h8 p7 e.symm; omega
  have n11 : ¬ (some p7 = (Value.slice A11 n c11).ownBlock) := fun e => by have := h11 p7 e.symm; omega
  have m8 : ¬ (some w.heap.size = (Value.slice A8 n c8).ownBlock) := fun e => by have := h8 _ e.symm; omega
  have m11 : ¬ (some w.heap.size = (Value.slice A11 n c11).ownBlock) := fun e => by have := h11 _ e.symm; omega
  have hpB := kB.heap (heap_keep (kA.heap (heap_keep hp hW) n8) hW') n11
  have hxB := kB.heap (heap_keep (kA.heap (heap_keep hx hW) m8) hW') m11
  have oAB : OwnI wB base (.slice (some ⟨gA, 0, none⟩) (n + 1) capA) (I.ws ++ [0]) := by
    refine (oA.keep hW').keepS kB fun k hk e => ?_
    have hk2 : k = gA := by cases hk; rfl
    subst hk2
    rcases bA with h | h
    · exact hap k h e.symm
    · have := (h11 k e.symm).1; omega
  have hgA : gA ≠ p7 := by
    rcases bA with h | h
    · have := (h8 gA h).1; omega
    · omega
  have hgB : gB ≠ p7 := by
    rcases bB with h | h
    · have := (h11 gB h).1; omega
    · omega
  have far : ∀ (V : World) (g cap : Nat) (xs : List Int) (l j : Nat) (u : Value), g ≠ p7 → OwnI V base (.slice (some ⟨g, 0, none⟩) l cap) xs → OwnI (V.setCell ⟨p7, j, none⟩ u) base (.slice (some ⟨g, 0, none⟩) l cap) xs := fun V g cap xs l j u hg h => by
    refine h.keepS ((Keep.refl (fun k => k = p7) V).setCell (p := ⟨p7, j, none⟩) rfl u) fun k hk e => ?_
    have : k = g := by cases hk; rfl
    omega
  have own : ∀ {V V' : World} {v : Value} {xs : List Int}, V'.heap = V.heap → OwnI V base v xs → OwnI V' base v xs := fun e h => by
    refine ⟨h.1, ?_⟩
    rcases h.2 with h2 | ⟨g, cap, cur, e2, hb', hg, r⟩
    · exact .inl h2
    · exact .inr ⟨g, cap, cur, e2, hb', by rw [e]; exact hg, r⟩
  refine ⟨gA, capA, gB, capB, ?_, own e1 (far _ _ _ _ _ _ _ hgA (far _ _ _ _ _ _ _ hgA (far _ _ _ _ _ _ _ hgA oAB))), own e1 (far _ _ _ _ _ _ _ hgB (far _ _ _ _ _ _ _ hgB (far _ _ _ _ _ _ _ hgB oB))), ?_, ?_⟩
  · rw [e1]
    have := heap_set (heap_set (heap_set hpB 1 (.int .i64 ((n : Int) + 1))) 3 (.slice (some ⟨gA, 0, none⟩) (n + 1) capA)) 4 (.slice (some ⟨gB, 0, none⟩) (n + 1) capB)
    rw [this]; rfl
  · have b0 : Below w.heap.size w wB := by
      have b1 := (hB.trans (hW.mono hB.size))
      have b2 : Below w.heap.size W wA := ⟨grA.os, grA.tape, grA.output, grA.size, fun k hk => grA.block k (by have := hB.size; omega) fun e => by have := h8 k e.symm; omega⟩
      have b3 : Below w.heap.size W' wB := ⟨grB.os, grB.tape, grB.output, grB.size, fun k hk => grB.block k (by have := hB.size; omega) fun e => by have := h11 k e.symm; omega⟩
      exact ((b1.trans b2).trans (hW'.mono (by have := hB.size; omega))).trans b3
    have b4 := ((b0.setCell (p := ⟨p7, 1, none⟩) (by show w.heap.size ≤ p7; omega) (.int .i64 ((n : Int) + 1))).setCell (p := ⟨p7, 3, none⟩) (by show w.heap.size ≤ p7; omega) (.slice (some ⟨gA, 0, none⟩) (n + 1) capA)).setCell (p := ⟨p7, 4, none⟩) (by show w.heap.size ≤ p7; omega) (.slice (some ⟨gB, 0, none⟩) (n + 1) capB)
    exact ⟨e2.trans b4.os, e3.trans b4.tape, e4.trans b4.output, by rw [e1]; exact b4.size, fun k hk => by rw [e1]; exact b4.block k hk⟩
  · rw [e1]
    exact heap_far (heap_far (heap_far hxB (by show w.heap.size ≠ p7; omega) _) (by show w.heap.size ≠ p7; omega) _) (by show w.heap.size ≠ p7; omega) _


set_option maxRecDepth 200000 in
set_option maxHeartbeats 2000000 in
theorem raised_1 (I : Inst) (hI : WF I) (hL : isLarge I = true) (hk : I.kind = 1) (v : Value) (w : World) (hv : InstAt w v I) (hT : TabW w) (an bn kk m n : Nat) (hn : I.n = (n : Int)) (han : an < 256) (hbn : bn < 4294967296) (hm : bn % 2147483648 = m) (hkk : an % (2 * n) = kk) :
    Calls Tryd.prog 7 #[v, .int .u8 (an : Nat), .int .u32 (bn : Nat)] w fun e w' => e = .returned (.bool true) ∧ Below w.heap.size w w' := by
  obtain ⟨n', hn', hn1, hn64, hwl, hvl, hcost, hcap, hok⟩ := hI.knap hk
  obtain rfl : n = n' := by omega
  have hn14 : n ≤ 14 := by have := large_kinds hL; omega
  have hlim := large_lim hL
  have HS := Lib.hid (fun W => stands_any W)
  have HLG := Lib.hid (fun W hv => large_true I hI hL v W hv)
  have HCP := Lib.hid (fun W hv => copy_any I v W hv (by rw [hcost]; exact Nat.zero_le _) (by rw [hcost]; intro j hj; cases hj) (by rw [hcost]; intro r; simp))
  have HBI := Lib.hid (fun W hv hT => topbest_any I hI hlim v W hv hT)
  have HBJ := Lib.hid (fun (hJ : WF (moreK I n m)) W v hv hT => topbest_any (moreK I n m) hJ ⟨fun _ => by show ((n + 1 : Nat) : Int) ≤ 18; omega, fun e => by have : I.kind = 3 := e; omega⟩ v W hv hT)
  have HCK := Lib.hid (fun W v hv => check_any (moreK I n m) v W hv)
  have HI := Lib.hid hI
  have HK := Lib.hid hk
  have HN := Lib.hid hn
  have HWL := Lib.hid (And.intro hwl (And.intro hvl hcost))
  have HV := Lib.hid hv
  have HT := Lib.hid hT
  obtain ⟨A1, c1, A2, c2, A3, c3, rfl, h1, h2, h3, h4⟩ := hv.kform hI hk hn
  obtain ⟨Cap, hCap⟩ : ∃ c, I.cap = c := ⟨_, rfl⟩
  rw [hCap] at HLG HCP HBI HV ⊢
  have HCAP := Lib.hid hCap
  have hm1 : (bn : Int) % 2147483648 = (m : Int) := by rw [← hm]; simp
  have hm2 : (bn : Int).tmod 2147483648 = (m : Int) := by rw [Int.tmod_eq_emod_of_nonneg (by omega)]; exact hm1
  have hk1 : (an : Int) % (2 * (n : Int)) = (kk : Int) := by rw [← hkk]; simp
  have hk2 : (an : Int).tmod (2 * (n : Int)) = (kk : Int) := by rw [Int.tmod_eq_emod_of_nonneg (by omega)]; exact hk1
  have hml : (m : Int) < 2147483648 := by omega
  have hkl : (kk : Int) < 2 * (n : Int) := by have := Nat.mod_lt an (show 0 < 2 * n by omega); omega
  have han2 : (an : Int) < 256 := by omega
  have hbn2 : (bn : Int) < 4294967296 := by omega
  clear hI hL hk hv hT hlim hn hn' hwl hvl hcost hcap hok hm hkk han hbn hCap h1 h2 h3 h4 hn64
  go_enter Tryd.func7, Tryd.ntmps7
  go_wp2_with fail
  refine (HS.out _).mono ?_
  rintro e w1 ⟨rfl, hb1⟩
  have hB1 := keep_box hb1
  obtain ⟨hc1, hf1⟩ := bcell hb1
  have hbx1 := heap_keep (heap_new w (.cells #[.int .i64 1, .int .i64 (n : Int), .int .i64 Cap, .slice A1 n c1, .slice A2 n c2, .slice A3 0 c3] 25 (0, 0)) _ rfl) hb1
  have HX1 := Lib.hid hbx1
  have HB1 := Lib.hid hB1
  clear hb1 hB1 hbx1
  go_wp2_with fail
  refine (HLG.out _ (HV.out.keep HB1.out)).mono ?_
  rintro e w2 ⟨rfl, hb2⟩
  have hbx2 := heap_keep HX1.out hb2
  have HX2 := Lib.hid hbx2
  have HB2 := Lib.hid (keep_trans HB1.out hb2)
  have y0 := blk_cell hbx2 0
  have y1 := blk_cell hbx2 1
  have y2 := blk_cell hbx2 2
  have y3 := blk_cell hbx2 3
  have y4 := blk_cell hbx2 4
  have y5 := blk_cell hbx2 5
  clear hc1 hf1 hb2 hbx2 HX1 HB1
  go_wp2_with fail
  refine (HCP.out _ (HV.out.keep HB2.out)).mono ?_
  rintro e w3 ⟨v', rfl, A8, c8, A11, c11, A5, c5, r, cp, B, rfl, hBB, ho8, ho11, hap, -, hb3⟩
  rw [HWL.out.1] at ho8 hap
  rw [HWL.out.2.1] at ho11 hap
  rw [HWL.out.1, HWL.out.2.1, HWL.out.2.2, HK.out, HN.out, HCAP.out]
  simp only [List.length_nil]
  have hws := HB2.out.size
  have hxl := heap_lt HX2.out
  have hbx3 := heap_keep HX2.out hb3
  have HX3 := Lib.hid hbx3
  have HB3 := Lib.hid (keep_trans HB2.out hb3)
  have HO8 := Lib.hid ho8
  have HO11 := Lib.hid ho11
  have HAP := Lib.hid hap
  have hs3 := hb3.size
  have hs3' : w2.heap.size + 2 ≤ w3.heap.size := by
    obtain ⟨g, cap, e, hg, -, hA⟩ := ho8.arr (fun e => by have := HWL.out.1; rw [e] at this; simp at this; omega)
    have := hA.lt
    omega
  clear y0 y1 y2 y3 y4 y5 ho8 ho11 hap
  have y0 := blk_cell hbx3 0
  have y1 := blk_cell hbx3 1
  have hxl3 := heap_lt hbx3
  clear hb3 HX2 HB2 hbx3
  go_upto_block 0 with (fail)
  have HML := Lib.hid hml
  clear y0 y1 hxl3 hm1 hm2 hk1 hk2 hbn2 han2 hml hkl
  have hp := heap_new w3 (.cells #[.int .i64 1, .int .i64 (n : Int), .int .i64 Cap, .slice A8 n c8, .slice A11 n c11, .slice A5 0 c5] 25 (0, 0)) _ rfl
  have hx := heap_old' HX3.out (.cells #[.int .i64 1, .int .i64 (n : Int), .int .i64 Cap, .slice A8 n c8, .slice A11 n c11, .slice A5 0 c5] 25 (0, 0))
  have hB0 := HB3.out.alloc HB3.out.size (.cells #[.int .i64 1, .int .i64 (n : Int), .int .i64 Cap, .slice A8 n c8, .slice A11 n c11, .slice A5 0 c5] 25 (0, 0))
  have ho8 := HO8.out.keep ((Below.refl _ _).alloc (Nat.le_refl _) (.cells #[.int .i64 1, .int .i64 (n : Int), .int .i64 Cap, .slice A8 n c8, .slice A11 n c11, .slice A5 0 c5] 25 (0, 0)))
  have ho11 := HO11.out.keep ((Below.refl _ _).alloc (Nat.le_refl _) (.cells #[.int .i64 1, .int .i64 (n : Int), .int .i64 Cap, .slice A8 n c8, .slice A11 n c11, .slice A5 0 c5] 25 (0, 0)))
  have hb8 : ∀ k, (Value.slice A8 n c8).ownBlock = some k → k < w3.heap.size ∧ w2.heap.size + 2 ≤ k := fun k hk => ⟨HO8.out.blockLt hk, HO8.out.blockGe hk⟩
  have hb11 : ∀ k, (Value.slice A11 n c11).ownBlock = some k → k < w3.heap.size ∧ w2.heap.size + 2 ≤ k := fun k hk => ⟨HO11.out.blockLt hk, HO11.out.blockGe hk⟩
  generalize hw0 : w3.alloc (.cells #[.int .i64 1, .int .i64 (n : Int), .int .i64 Cap, .slice A8 n c8, .slice A11 n c11, .slice A5 0 c5] 25) = w0 at *
  clear hw0
  have hps := heap_lt hp
  have l8 : I.ws.length ≤ 1000000 := by have := HWL.out.1; omega
  have l11 : I.vs.length ≤ 1000000 := by have := HWL.out.2.1; omega
  have hb2 : w2.heap.size + 2 ≤ w0.heap.size := by omega
  have own : ∀ {V V' : World} {v : Value} {xs : List Int}, V'.heap = V.heap → OwnI V (w2.heap.size + 2) v xs → OwnI V' (w2.heap.size + 2) v xs := fun e h => by
    refine ⟨h.1, ?_⟩
    rcases h.2 with h2 | ⟨g, cap, cur, e2, hb', hg, r⟩
    · exact .inl h2
    · exact .inr ⟨g, cap, cur, e2, hb', by rw [e]; exact hg, r⟩
  have cel : ∀ {V V' : World} {p : Addr}, V'.heap = V.heap → V'.cell? p = V.cell? p := fun e => by simp only [World.cell?, e]
  have al : ∀ (V : World) (o : Obj), Below V.heap.size V (V.alloc o) := fun V o => (Below.refl _ _).alloc (Nat.le_refl _) o
  have F1 : ∀ W : World, W.heap = (w0.alloc (.cells #[.int .i64 0] 3)).heap → OwnI W (w2.heap.size + 2) (.slice A8 n c8) I.ws ∧ W.cell? ⟨w0.heap.size, 0, none⟩ = some (.int .i64 0) ∧ w2.heap.size + 2 ≤ W.heap.size := fun W e =>
    ⟨own e (ho8.keep (al _ _)), by rw [cel e, blk_cell (heap_new w0 (.cells #[.int .i64 0] 3) _ rfl)]; rfl, by rw [e]; simp; omega⟩
  have F2 : ∀ W : World, W.heap = ((w0.alloc (.cells #[.int .i64 0] 3)).alloc (.cells #[.int .i64 (m : Int)] 3)).heap → OwnI W (w2.heap.size + 2) (.slice A8 n c8) I.ws ∧ W.cell? ⟨w0.heap.size, 0, none⟩ = some (.int .i64 0) ∧ w2.heap.size + 2 ≤ W.heap.size := fun W e =>
    ⟨own e ((ho8.keep (al _ _)).keep (al _ _)), by rw [cel e, blk_cell (heap_old' (heap_new w0 (.cells #[.int .i64 0] 3) _ rfl) _)]; rfl, by rw [e]; simp; omega⟩
  have F3 : ∀ W : World, W.heap = ((w0.alloc (.cells #[.int .i64 (m : Int)] 3)).alloc (.cells #[.int .i64 0] 3)).heap → OwnI W (w2.heap.size + 2) (.slice A8 n c8) I.ws ∧ W.cell? ⟨w0.heap.size + 1, 0, none⟩ = some (.int .i64 0) ∧ w2.heap.size + 2 ≤ W.heap.size := fun W e =>
    ⟨own e ((ho8.keep (al _ _)).keep (al _ _)), by rw [cel e, blk_cell (heap_new (w0.alloc (.cells #[.int .i64 (m : Int)] 3)) (.cells #[.int .i64 0] 3) _ (by simp))]; rfl, by rw [e]; simp; omega⟩
  have kg : ∀ {W wA : World}, W.grownBy wA (Value.slice A8 n c8).ownBlock → OwnI W (w2.heap.size + 2) (.slice A11 n c11) I.vs → OwnI wA (w2.heap.size + 2) (.slice A11 n c11) I.vs := fun g h => h.keepS (keep_grown g) fun k hk e => HAP.out k e.symm hk
  have G1 : ∀ W wA W' : World, W.grownBy wA (Value.slice A8 n c8).ownBlock → W.heap = (w0.alloc (.cells #[.int .i64 0] 3)).heap → W'.heap = (wA.alloc (.cells #[.int .i64 (m : Int)] 3)).heap → OwnI W' (w2.heap.size + 2) (.slice A11 n c11) I.vs ∧ W'.cell? ⟨wA.heap.size, 0, none⟩ = some (.int .i64 (m : Int)) ∧ w2.heap.size + 2 ≤ W'.heap.size := fun W wA W' g e e' =>
    ⟨own e' ((kg g (own e (ho11.keep (al _ _)))).keep (al _ _)), by rw [cel e', blk_cell (heap_new wA (.cells #[.int .i64 (m : Int)] 3) _ rfl)]; rfl, by have := g.size; rw [e] at this; rw [e']; simp at this ⊢; omega⟩
  have G2 : ∀ W wA W' : World, W.grownBy wA (Value.slice A8 n c8).ownBlock → W.heap = ((w0.alloc (.cells #[.int .i64 0] 3)).alloc (.cells #[.int .i64 (m : Int)] 3)).heap → W'.heap = wA.heap → OwnI W' (w2.heap.size + 2) (.slice A11 n c11) I.vs ∧ W'.cell? ⟨w0.heap.size + 1, 0, none⟩ = some (.int .i64 (m : Int)) ∧ w2.heap.size + 2 ≤ W'.heap.size := fun W wA W' g e e' => by
    refine ⟨own e' (kg g (own e ((ho11.keep (al _ _)).keep (al _ _)))), ?_, by have := g.size; rw [e] at this; rw [e']; simp at this ⊢; omega⟩
    have h := heap_new (w0.alloc (.cells #[.int .i64 0] 3)) (.cells #[.int .i64 (m : Int)] 3) (w0.heap.size + 1) (by simp)
    rw [← e] at h
    rw [cel e', blk_cell ((keep_grown g).heap h fun e3 => by have := hb8 _ e3.symm; omega)]; rfl
  have G3 : ∀ W wA W' : World, W.grownBy wA (Value.slice A8 n c8).ownBlock → W.heap = ((w0.alloc (.cells #[.int .i64 (m : Int)] 3)).alloc (.cells #[.int .i64 0] 3)).heap → W'.heap = wA.heap → OwnI W' (w2.heap.size + 2) (.slice A11 n c11) I.vs ∧ W'.cell? ⟨w0.heap.size, 0, none⟩ = some (.int .i64 (m : Int)) ∧ w2.heap.size + 2 ≤ W'.heap.size := fun W wA W' g e e' => by
    refine ⟨own e' (kg g (own e ((ho11.keep (al _ _)).keep (al _ _)))), ?_, by have := g.size; rw [e] at this; rw [e']; simp at this ⊢; omega⟩
    have h := heap_old' (heap_new w0 (.cells #[.int .i64 (m : Int)] 3) _ rfl) (.cells #[.int .i64 0] 3)
    rw [← e] at h
    rw [cel e', blk_cell ((keep_grown g).heap h fun e3 => by have := hb8 _ e3.symm; omega)]; rfl
  have A1s : ∀ W wA : World, W.grownBy wA (Value.slice A8 n c8).ownBlock → (W.heap = (w0.alloc (.cells #[.int .i64 0] 3)).heap ∨ W.heap = ((w0.alloc (.cells #[.int .i64 0] 3)).alloc (.cells #[.int .i64 (m : Int)] 3)).heap ∨ W.heap = ((w0.alloc (.cells #[.int .i64 (m : Int)] 3)).alloc (.cells #[.int .i64 0] 3)).heap) → Six w3.heap.size n A8 A11 c8 c11 wA ∧ w3.heap.size < wA.heap.size := fun W wA g e => by
    have hW : W.heap[w3.heap.size]? = w0.heap[w3.heap.size]? ∧ w3.heap.size < W.heap.size := by
      rcases e with e | e | e
      · rw [e]; exact ⟨(al w0 _).block _ hps, by simp; omega⟩
      · rw [e]; exact ⟨((al _ _).block _ (by simp; omega)).trans ((al w0 _).block _ hps), by simp; omega⟩
      · rw [e]; exact ⟨((al _ _).block _ (by simp; omega)).trans ((al w0 _).block _ hps), by simp; omega⟩
    exact ⟨(Six.mk hp).heap ((g.block _ hW.2 fun e => by have := (hb8 _ e.symm).1; have : w3.heap.size < w3.heap.size := this; omega).trans hW.1), by have := g.size; omega⟩
  have B1s : ∀ wA W' wB : World, Six w3.heap.size n A8 A11 c8 c11 wA ∧ w3.heap.size < wA.heap.size → (W'.heap = (wA.alloc (.cells #[.int .i64 (m : Int)] 3)).heap ∨ W'.heap = wA.heap) → W'.grownBy wB (Value.slice A11 n c11).ownBlock → Six w3.heap.size n A8 A11 c8 c11 wB := fun wA W' wB h e g => by
    have hW : W'.heap[w3.heap.size]? = wA.heap[w3.heap.size]? ∧ w3.heap.size < W'.heap.size := by
      rcases e with e | e
      · rw [e]; exact ⟨(al wA _).block _ h.2, by simp; omega⟩
      · rw [e]; exact ⟨rfl, h.2⟩
    exact h.1.heap ((g.block _ hW.2 fun e => by have := (hb11 _ e.symm).1; have : w3.heap.size < w3.heap.size := this; omega).trans hW.1)
  have HS1 := Lib.hid (show ∀ W : World, (W.heap = (w0.alloc (.cells #[.int .i64 0] 3)).heap ∨ W.heap = (w0.alloc (.cells #[.int .i64 (m : Int)] 3)).heap ∨ W.heap = ((w0.alloc (.cells #[.int .i64 0] 3)).alloc (.cells #[.int .i64 (m : Int)] 3)).heap ∨ W.heap = ((w0.alloc (.cells #[.int .i64 (m : Int)] 3)).alloc (.cells #[.int .i64 0] 3)).heap) → Six w3.heap.size n A8 A11 c8 c11 W from fun W e => by
    refine (Six.mk hp).heap ?_
    rcases e with e | e | e | e
    · rw [e]; exact (al w0 _).block _ hps
    · rw [e]; exact (al w0 _).block _ hps
    · rw [e]; exact ((al _ _).block _ (by simp; omega)).trans ((al w0 _).block _ hps)
    · rw [e]; exact ((al _ _).block _ (by simp; omega)).trans ((al w0 _).block _ hps))
  have HS2 := Lib.hid (show ∀ wA W : World, Six w3.heap.size n A8 A11 c8 c11 wA ∧ w3.heap.size < wA.heap.size → W.heap = (wA.alloc (.cells #[.int .i64 (m : Int)] 3)).heap → Six w3.heap.size n A8 A11 c8 c11 W from fun wA W h e => h.1.heap (by rw [e]; exact (al wA _).block _ h.2))
  have HA1s := Lib.hid A1s
  have HB1s := Lib.hid B1s
  have HF1 := Lib.hid F1
  have HF2 := Lib.hid F2
  have HF3 := Lib.hid F3
  have HG1 := Lib.hid G1
  have HG2 := Lib.hid G2
  have HG3 := Lib.hid G3
  have HFIN := Lib.hid (fun (W wA W' wB Wf : World) (gA capA gB capB : Nat) grA hW oA bA grB hW' oB bB e1 e2 e3 e4 => fin1_ok (m := (m : Int)) HWL.out.1 HWL.out.2.1 hB0 (show w.heap.size < w2.heap.size + 2 by omega) hs3' hx hp hb8 hb11 HAP.out (W := W) (wA := wA) (W' := W') (wB := wB) (Wf := Wf) (gA := gA) (capA := capA) (gB := gB) (capB := capB) hW grA oA bA hW' grB oB bB e1 e2 e3 e4)
  have x0 := blk_cell hx 0
  have x1 := blk_cell hx 1
  have HSX0 := Lib.hid (show Six w3.heap.size n A8 A11 c8 c11 w0.drew from Six.mk hp)
  have z1 := blk_cell hp 1
  have z3 := blk_cell hp 3
  have z4 := blk_cell hp 4
  have f1 := blk_free hp 1
  have f3 := blk_free hp 3
  have f4 := blk_free hp 4
  simp at z1 z3 z4
  have hwn : IntKind.i64.wrap ((n : Int) + 1) = (n : Int) + 1 := by rw [IntKind.wrap_i64]; omega
  clear A1s B1s F1 F2 F3 G1 G2 G3 own cel al kg hp hx hB0 ho8 ho11 hb8 hb11
  go_cut [] (fun wc => Hid (Fin1 I n m Cap w w3.heap.size A1 A2 A3 A5 c1 c2 c3 c5 (w2.heap.size + 2) wc))
  case first =>
    go_upto_region 15 with (fail)
    clear x0 x1
    refine wp_region_U (S := Six w3.heap.size n A8 A11 c8 c11) 13 (by kernel_rfl) ?_
    refine wpU_pure (i := 0) (v := ?_) rfl (by kernel_rfl) (by kernel_rfl) (by kernel_rfl) (fun _ _ _ h => h) (by kernel_rfl) (Or.inl ⟨by rfl, ?_⟩) HSX0.out ?_
    rotate_left
    · intro W _
      go_simp
      try with_reducible rfl
    refine wpU_take (i := 1) (v := ?_) rfl (by kernel_rfl) (by kernel_rfl) (by kernel_rfl) (fun _ _ _ h => h) (by kernel_rfl) (by kernel_rfl) (Or.inl ⟨by rfl, ?_⟩) HSX0.out ?_
    rotate_left
    · intro W hW
      obtain ⟨q1, q3, q4, r1, r3, r4⟩ := hW
      go_simp
      try with_reducible rfl
    refine wpU_pure (i := 2) (v := ?_) rfl (by kernel_rfl) (by kernel_rfl) (by kernel_rfl) (fun _ _ _ h => h) (by kernel_rfl) (Or.inl ⟨by rfl, ?_⟩) HSX0.out ?_
    rotate_left
    · intro W _
      go_simp
      try with_reducible rfl
    refine wpU_pure (i := 3) (v := ?_) rfl (by kernel_rfl) (by kernel_rfl) (by kernel_rfl) (fun _ _ _ h => h) (by kernel_rfl) (Or.inl ⟨by rfl, ?_⟩) HSX0.out ?_
    rotate_left
    · intro W _
      go_simp
      try with_reducible rfl
    refine wpU_take (i := 4) (v := ?_) rfl (by kernel_rfl) (by kernel_rfl) (by kernel_rfl) (fun _ _ _ h => h) (by kernel_rfl) (by kernel_rfl) (Or.inl ⟨by rfl, ?_⟩) HSX0.out ?_
    rotate_left
    · intro W hW
      obtain ⟨q1, q3, q4, r1, r3, r4⟩ := hW
      go_simp
      try with_reducible rfl
    refine wpU_pure (i := 7) (v := ?_) rfl (by kernel_rfl) (by kernel_rfl) (by kernel_rfl) (fun _ _ _ h => h) (by kernel_rfl) (Or.inl ⟨by rfl, ?_⟩) HSX0.out ?_
    rotate_left
    · intro W _
      go_simp
      try with_reducible rfl
    refine wpU_take (i := 8) (v := ?_) rfl (by kernel_rfl) (by kernel_rfl) (by kernel_rfl) (fun _ _ _ h => h) (by kernel_rfl) (by kernel_rfl) (Or.inl ⟨by rfl, ?_⟩) HSX0.out ?_
    rotate_left
    · intro W hW
      obtain ⟨q1, q3, q4, r1, r3, r4⟩ := hW
      go_simp
      try with_reducible rfl
    refine wpU_pure (i := 9) (v := ?_) rfl (by kernel_rfl) (by kernel_rfl) (by kernel_rfl) (fun _ _ _ h => h) (by kernel_rfl) (Or.inl ⟨by rfl, ?_⟩) HSX0.out ?_
    rotate_left
    · intro W _
      go_simp
      try with_reducible rfl
    refine wpU_pure (i := 12) (v := ?_) rfl (by kernel_rfl) (by kernel_rfl) (by kernel_rfl) (fun _ _ _ h => h) (by kernel_rfl) (Or.inl ⟨by rfl, ?_⟩) HSX0.out ?_
    rotate_left
    · intro W _
      go_simp
      try with_reducible rfl
    refine wpU_two (i := 5) (j := 10) (by kernel_rfl) ?_ ?_
    · refine wpU_step (by rfl) (fun K hK => ?_)
      go_simp
      refine hK _ _ (fun _ => HS1.out _ (.inl rfl)) ?_
      clear hK K
      refine wpU_two (i := 6) (j := 10) (by kernel_rfl) ?_ ?_
      · refine wpU_step (by rfl) (fun K hK => ?_)
        refine step_append_int (by rfl) _ _ (by rfl) (w2.heap.size + 2) (.slice A8 n c8) I.ws (by rfl) _ 0 _ (HF1.out _ (by rfl)) (by rfl) l8 ?_
        intro gA capA wA oA grA bA
        have HSX := Lib.hid (HA1s.out _ _ grA (.inl rfl))
        refine hK _ _ (fun _ => HSX.out.1) ?_
        clear hK K
        refine wpU_one (i := 10) (by kernel_rfl) ?_
        refine wpU_step (by rfl) (fun K hK => ?_)
        go_simp
        refine hK _ _ (fun _ => HS2.out _ _ HSX.out rfl) ?_
        clear hK K
        refine wpU_one (i := 11) (by kernel_rfl) ?_
        refine wpU_step (by rfl) (fun K hK => ?_)
        refine step_append_int (by rfl) _ _ (by rfl) (w2.heap.size + 2) (.slice A11 n c11) I.vs (by rfl) _ (m : Int) _ (HG1.out _ _ _ grA (by rfl) (by rfl)) (by rfl) l11 ?_
        intro gB capB wB oB grB bB
        have HSY := Lib.hid (HB1s.out _ _ _ HSX.out (.inl rfl) grB)
        refine hK _ _ (fun _ => HSY.out) ?_
        clear hK K
        obtain ⟨s1, s3, s4, t1, t3, t4⟩ := HSY.out
        refine wpU_one (i := 13) (by kernel_rfl) ?_
        refine wpU_step (by rfl) (fun K hK => ?_)
        go_simp
        refine hK _ _ (fun h => absurd (show (true : Bool) = false from h) (by decide)) ?_
        clear hK K
        refine wpU_of_any _ _ _ _ (by rfl) ?_
        refine wpAny_take (i := 14) (v := ?_) rfl (by kernel_rfl) (by kernel_rfl) (by kernel_rfl) (fun _ _ _ h => h) (Or.inl ⟨by rfl, ?_⟩) ?_
        rotate_left
        · intro W
          go_simp
          try with_reducible rfl
        refine wpAny_ready (rs := [15]) (by kernel_rfl) (by simp) ?_
        refine AllReady.cons (by rfl) (fun K hK => ?_) AllReady.nil
        go_simp
        refine hK _ _ ?_
        clear hK K
        refine wpAny_take (i := 16) (v := ?_) rfl (by kernel_rfl) (by kernel_rfl) (by kernel_rfl) (fun _ _ _ h => h) (Or.inl ⟨by rfl, ?_⟩) ?_
        rotate_left
        · intro W
          go_simp
          try with_reducible rfl
        refine wpAny_ready (rs := [17]) (by kernel_rfl) (by simp) ?_
        refine AllReady.cons (by rfl) (fun K hK => ?_) AllReady.nil
        go_simp
        refine hK _ _ ?_
        clear hK K
        refine wpAny_done (by kernel_rfl) ?_ _
        refine NoPanic.normal ?_
        clear s1 s3 s4 t1 t3 t4
        go_wp2
        go_meet
        exact Lib.hid (HFIN.out _ _ _ _ _ _ _ _ _ grA (below_like _ rfl rfl rfl rfl) oA bA grB (below_like _ rfl rfl rfl rfl) oB bB rfl rfl rfl rfl)
      · refine wpU_step (by rfl) (fun K hK => ?_)
        go_simp
        refine hK _ _ (fun _ => HS1.out _ (.inr (.inr (.inl rfl)))) ?_
        clear hK K
        refine wpU_one (i := 6) (by kernel_rfl) ?_
        refine wpU_step (by rfl) (fun K hK => ?_)
        refine step_append_int (by rfl) _ _ (by rfl) (w2.heap.size + 2) (.slice A8 n c8) I.ws (by rfl) _ 0 _ (HF2.out _ (by rfl)) (by rfl) l8 ?_
        intro gA capA wA oA grA bA
        have HSX := Lib.hid (HA1s.out _ _ grA (.inr (.inl rfl)))
        refine hK _ _ (fun _ => HSX.out.1) ?_
        clear hK K
        refine wpU_one (i := 11) (by kernel_rfl) ?_
        refine wpU_step (by rfl) (fun K hK => ?_)
        refine step_append_int (by rfl) _ _ (by rfl) (w2.heap.size + 2) (.slice A11 n c11) I.vs (by rfl) _ (m : Int) _ (HG2.out _ _ _ grA (by rfl) (by rfl)) (by rfl) l11 ?_
        intro gB capB wB oB grB bB
        have HSY := Lib.hid (HB1s.out _ _ _ HSX.out (.inr rfl) grB)
        refine hK _ _ (fun _ => HSY.out) ?_
        clear hK K
        obtain ⟨s1, s3, s4, t1, t3, t4⟩ := HSY.out
        refine wpU_one (i := 13) (by kernel_rfl) ?_
        refine wpU_step (by rfl) (fun K hK => ?_)
        go_simp
        refine hK _ _ (fun h => absurd (show (true : Bool) = false from h) (by decide)) ?_
        clear hK K
        refine wpU_of_any _ _ _ _ (by rfl) ?_
        refine wpAny_take (i := 14) (v := ?_) rfl (by kernel_rfl) (by kernel_rfl) (by kernel_rfl) (fun _ _ _ h => h) (Or.inl ⟨by rfl, ?_⟩) ?_
        rotate_left
        · intro W
          go_simp
          try with_reducible rfl
        refine wpAny_ready (rs := [15]) (by kernel_rfl) (by simp) ?_
        refine AllReady.cons (by rfl) (fun K hK => ?_) AllReady.nil
        go_simp
        refine hK _ _ ?_
        clear hK K
        refine wpAny_take (i := 16) (v := ?_) rfl (by kernel_rfl) (by kernel_rfl) (by kernel_rfl) (fun _ _ _ h => h) (Or.inl ⟨by rfl, ?_⟩) ?_
        rotate_left
        · intro W
          go_simp
          try with_reducible rfl
        refine wpAny_ready (rs := [17]) (by kernel_rfl) (by simp) ?_
        refine AllReady.cons (by rfl) (fun K hK => ?_) AllReady.nil
        go_simp
        refine hK _ _ ?_
        clear hK K
        refine wpAny_done (by kernel_rfl) ?_ _
        refine NoPanic.normal ?_
        clear s1 s3 s4 t1 t3 t4
        go_wp2
        go_meet
        exact Lib.hid (HFIN.out _ _ _ _ _ _ _ _ _ grA (below_like2 _ _ rfl rfl rfl rfl) oA bA grB (below_eqhx (Below.refl _ _) rfl rfl rfl rfl) oB bB rfl rfl rfl rfl)
    · refine wpU_step (by rfl) (fun K hK => ?_)
      go_simp
      refine hK _ _ (fun _ => HS1.out _ (.inr (.inl rfl))) ?_
      clear hK K
      refine wpU_one (i := 5) (by kernel_rfl) ?_
      refine wpU_step (by rfl) (fun K hK => ?_)
      go_simp
      refine hK _ _ (fun _ => HS1.out _ (.inr (.inr (.inr rfl)))) ?_
      clear hK K
      refine wpU_one (i := 6) (by kernel_rfl) ?_
      refine wpU_step (by rfl) (fun K hK => ?_)
      refine step_append_int (by rfl) _ _ (by rfl) (w2.heap.size + 2) (.slice A8 n c8) I.ws (by rfl) _ 0 _ (HF3.out _ (by rfl)) (by rfl) l8 ?_
      intro gA capA wA oA grA bA
      have HSX := Lib.hid (HA1s.out _ _ grA (.inr (.inr rfl)))
      refine hK _ _ (fun _ => HSX.out.1) ?_
      clear hK K
      refine wpU_one (i := 11) (by kernel_rfl) ?_
      refine wpU_step (by rfl) (fun K hK => ?_)
      refine step_append_int (by rfl) _ _ (by rfl) (w2.heap.size + 2) (.slice A11 n c11) I.vs (by rfl) _ (m : Int) _ (HG3.out _ _ _ grA (by rfl) (by rfl)) (by rfl) l11 ?_
      intro gB capB wB oB grB bB
      have HSY := Lib.hid (HB1s.out _ _ _ HSX.out (.inr rfl) grB)
      refine hK _ _ (fun _ => HSY.out) ?_
      clear hK K
      obtain ⟨s1, s3, s4, t1, t3, t4⟩ := HSY.out
      refine wpU_one (i := 13) (by kernel_rfl) ?_
      refine wpU_step (by rfl) (fun K hK => ?_)
      go_simp
      refine hK _ _ (fun h => absurd (show (true : Bool) = false from h) (by decide)) ?_
      clear hK K
      refine wpU_of_any _ _ _ _ (by rfl) ?_
      refine wpAny_take (i := 14) (v := ?_) rfl (by kernel_rfl) (by kernel_rfl) (by kernel_rfl) (fun _ _ _ h => h) (Or.inl ⟨by rfl, ?_⟩) ?_
      rotate_left
      · intro W
        go_simp
        try with_reducible rfl
      refine wpAny_ready (rs := [15]) (by kernel_rfl) (by simp) ?_
      refine AllReady.cons (by rfl) (fun K hK => ?_) AllReady.nil
      go_simp
      refine hK _ _ ?_
      clear hK K
      refine wpAny_take (i := 16) (v := ?_) rfl (by kernel_rfl) (by kernel_rfl) (by kernel_rfl) (fun _ _ _ h => h) (Or.inl ⟨by rfl, ?_⟩) ?_
      rotate_left
      · intro W
        go_simp
        try with_reducible rfl
      refine wpAny_ready (rs := [17]) (by kernel_rfl) (by simp) ?_
      refine AllReady.cons (by rfl) (fun K hK => ?_) AllReady.nil
      go_simp
      refine hK _ _ ?_
      clear hK K
      refine wpAny_done (by kernel_rfl) ?_ _
      refine NoPanic.normal ?_
      clear s1 s3 s4 t1 t3 t4
      go_wp2
      go_meet
      exact Lib.hid (HFIN.out _ _ _ _ _ _ _ _ _ grA (below_like2 _ _ rfl rfl rfl rfl) oA bA grB (below_eqhx (Below.refl _ _) rfl rfl rfl rfl) oB bB rfl rfl rfl rfl)
  case rest =>
    obtain ⟨g8, k8, g11, k11, hbj, ho8, ho11, hBw, hbi⟩ := hcut.out
    have hIJ := instAt_moreK HK.out HCAP.out HWL.out.1 HWL.out.2.1 HWL.out.2.2 hn14 (c5 := c5) (A5 := A5) ho8 ho11
    have HIJ := Lib.hid hIJ
    have HBw := Lib.hid hBw
    have HXi := Lib.hid hbi
    have HXj := Lib.hid hbj
    have z0 := blk_cell hbj 0
    have z1' := blk_cell hbj 1
    have z2 := blk_cell hbj 2
    have z3' := blk_cell hbj 3
    have z4' := blk_cell hbj 4
    have z5 := blk_cell hbj 5
    clear z1 z3 z4 f1 f3 f4 x0 x1 hbj ho8 ho11 hBw hbi hIJ hcut hwn
    go_wp2_with fail
    refine (HCK.out _ _ HIJ.out).mono ?_
    rintro e w4 ⟨rr, rfl, hrr, hb4⟩
    have HB4 := Lib.hid (keep_trans HBw.out hb4)
    have HXi4 := Lib.hid (heap_keep HXi.out hb4)
    have HXj4 := Lib.hid (heap_keep HXj.out hb4)
    have HIJ4 := Lib.hid (HIJ.out.keep hb4)
    have HWJ := Lib.hid hrr
    have hxi4 := HXi4.out
    have y0 := blk_cell hxi4 0
    have y1 := blk_cell hxi4 1
    have y2 := blk_cell hxi4 2
    have y3 := blk_cell hxi4 3
    have y4 := blk_cell hxi4 4
    have y5 := blk_cell hxi4 5
    clear z0 z1' z2 z3' z4' z5 hrr hb4 hxi4 HXi HXj HBw HIJ
    rcases Bool.eq_false_or_eq_true (rr != 0) with hr0 | hr0
    · clear HWJ
      go_wp2
      go_ret
      exact ⟨rfl, HB4.out⟩
    have hr0' : rr = 0 := by simpa using hr0
    subst hr0'
    clear hr0
    go_wp2_with fail
    refine (HBI.out w4 (HV.out.keep HB4.out) (HT.out.keep HB4.out)).mono ?_
    rintro e w5 ⟨x, Ax, cx, rfl, hox, hxc, hix, hb5⟩
    have hrg := cost_range1 HI.out hox.1 HK.out
    obtain ⟨C, hC⟩ : ∃ C, costOf I x = C := ⟨_, rfl⟩
    rw [hC] at hrg ⊢
    have HRG := Lib.hid hrg
    have HC := Lib.hid hC
    have HOX := Lib.hid hox
    clear hrg
    have HXj5 := Lib.hid (heap_keep HXj4.out hb5)
    have HB5 := Lib.hid (keep_trans HB4.out hb5)
    have HIJ5 := Lib.hid (HIJ4.out.keep hb5)
    have hxj5 := HXj5.out
    have z0 := blk_cell hxj5 0
    have z1 := blk_cell hxj5 1
    have z2 := blk_cell hxj5 2
    have z3 := blk_cell hxj5 3
    have z4 := blk_cell hxj5 4
    have z5 := blk_cell hxj5 5
    clear hC hox hxc hix hb5 hxj5 y0 y1 y2 y3 y4 y5
    go_wp2_with fail
    refine (HBJ.out (HWJ.out.1 (by first | rfl | trivial)) w5 _ HIJ5.out (HT.out.keep HB5.out)).mono ?_
    rintro e w6 ⟨y, Ay, cy, rfl, hoy, hyc, hiy, hb6⟩
    have hcy := more1_eq HK.out HN.out HWL.out.1 HWL.out.2.1 (Int.natCast_nonneg m) HOX.out hoy
    rw [HC.out] at hcy
    rw [hcy]
    have HB6 := Lib.hid (keep_trans HB5.out hb6)
    clear hcy hoy hyc hiy hb6 z0 z1 z2 z3 z4 z5
    have heq : (C == wrap64 C) = true := by have := HRG.out; simp [wrap64]; omega
    have heq1 : (C == C) = true := by simp
    go_wp2
    go_ret
    exact ⟨rfl, HB6.out⟩

set_option maxRecDepth 200000 in
theorem raised_no (I : Inst) (h : ¬ (WF I ∧ isLarge I = true)) (v a b : Value) (w : World) (hv : InstAt w v I) : Calls Tryd.prog 7 #[v, a, b] w fun e w' => e = .returned (.bool true) ∧ Below w.heap.size w w' := by
  have HS := Lib.hid (fun W => stands_any W)
  have HLG := Lib.hid (fun W hv => large_false I h v W hv)
  have HV := Lib.hid hv
  obtain ⟨A1, c1, A2, c2, A3, c3, rfl, -⟩ := hv
  clear h
  generalize I.ws.length = l1 at *
  generalize I.vs.length = l2 at *
  generalize I.cost.length = l3 at *
  go_enter Tryd.func7, Tryd.ntmps7
  go_wp2_with fail
  refine (HS.out _).mono ?_
  rintro e w1 ⟨rfl, hb1⟩
  have HB1 := Lib.hid (keep_box hb1)
  obtain ⟨hc1, hf1⟩ := bcell hb1
  clear hb1
  go_wp2_with fail
  refine (HLG.out _ (HV.out.keep HB1.out)).mono ?_
  rintro e w2 ⟨rfl, hb2⟩
  have HB2 := Lib.hid (keep_trans HB1.out hb2)
  clear hb2 hc1 hf1
  go_wp2_with fail
  refine (HS.out _).mono ?_
  rintro e w3 ⟨rfl, hb3⟩
  have HB3 := Lib.hid (keep_trans HB2.out hb3)
  clear hb3
  go_wp2
  go_ret
  exact ⟨rfl, HB3.out⟩

theorem raised_any (I : Inst) (v : Value) (w : World) (hv : InstAt w v I) (hT : TabW w) (an bn : Nat) (han : an < 256) (hbn : bn < 4294967296) : Calls Tryd.prog 7 #[v, .int .u8 (an : Nat), .int .u32 (bn : Nat)] w fun e w' => e = .returned (.bool true) ∧ Below w.heap.size w w' := by
  by_cases h : WF I ∧ isLarge I = true
  · rcases h.1.kinds with hk | hk | hk
    · obtain ⟨n, hn, -⟩ := h.1.knap hk
      exact raised_1 I h.1 h.2 hk v w hv hT an bn _ _ n hn han hbn rfl rfl
    · obtain ⟨n, hn, -⟩ := h.1.rows (by omega)
      rcases Nat.lt_or_ge (an % (2 * n)) n with hm | hm
      · exact raised_2row I h.1 h.2 hk v w hv hT an bn _ _ _ n hn han hbn rfl rfl rfl hm
      · exact raised_2col I h.1 h.2 hk v w hv hT an bn _ _ _ n hn han hbn rfl rfl rfl hm
    · obtain ⟨n, hn, -⟩ := h.1.rows (by omega)
      rcases Nat.lt_or_ge (an % (2 * n)) n with hm | hm
      · exact raised_3row I h.1 h.2 hk v w hv hT an bn _ _ _ n hn han hbn rfl rfl rfl hm
      · exact raised_3col I h.1 h.2 hk v w hv hT an bn _ _ _ n hn han hbn rfl rfl rfl hm
  · exact raised_no I h v _ _ w hv
end Go.Proofs.YtmfgffmlnfimcaaDoor
