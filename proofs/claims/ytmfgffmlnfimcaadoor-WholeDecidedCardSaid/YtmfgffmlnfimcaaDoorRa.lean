/- What the rows share: a problem's value opened, the laid table, arguments that read as before. -/
import Derived.Test.YtmfgffmlnfimcaaDoorQ
import Derived.Test.YtmfgffmlnfimcaaDoorCards
import Derived.Test.YtmfgffmlnfimcaaDoorTie
import Derived.ProofKit
import Derived.OpenShut
import Derived.SizedLaws
import Derived.Deep.Matrix
import Derived.Deep.DeepHandedRow
import Derived.Lib.LaidTab
import Derived.Lib.SmallJoins
namespace Go.Proofs.YtmfgffmlnfimcaaDoor
open Go.Joins Go.ChangeShapes Go.WideShapes Go.ChangeAt Go.RowKit Go.Deep

theorem row_own : ownKnob Tryd.prog.godebug = none := by kernel_rfl
theorem row_laidOut : laidOutB Tryd.prog = true := by kernel_rfl
theorem gTab : Tryd.prog.globalNamed "math/bits.deBruijn64tab" = some 0 := by kernel_rfl
theorem gTabType : (Tryd.prog.globals[0]?).map (·.type) = some 99 := by kernel_rfl
theorem cells99 : Tryd.prog.cellsOf 99 = 64 := by kernel_rfl
theorem cells5 : Tryd.prog.cellsOf 5 = 1 := by kernel_rfl
theorem cells3 : Tryd.prog.cellsOf 3 = 1 := by kernel_rfl
theorem cells22 : Tryd.prog.cellsOf 22 = 1 := by kernel_rfl
theorem cells25 : Tryd.prog.cellsOf 25 = 6 := by kernel_rfl
theorem bytes3 : Tryd.prog.bytesOf 3 = 8 := by kernel_rfl
theorem bytes22 : Tryd.prog.bytesOf 22 = 24 := by kernel_rfl

theorem getD_nats (l : List Nat) (j : Nat) : (l.map fun n : Nat => (n : Int)).getD j 0 = ((l.getD j 0 : Nat) : Int) := by
  simp only [List.getD_eq_getElem?_getD, List.getElem?_map]
  cases l[j]? <;> rfl
theorem getD_lists {n : Nat} (f : Nat → List Int) {a : Nat} (ha : a < n) : ((List.range n).map f).getD a [] = f a := by
  simp [List.getD_eq_getElem?_getD, ha]

/-- The table that the row lists. -/
theorem tab_of {W : World} (h : laidMetH Tryd.prog [("math/bits.deBruijn64tab", Rows.laid_math_bits_deBruijn64tab)] W) : TabW W := by
  have ht : Lib.TabIs Tryd.prog W "math/bits.deBruijn64tab" .u8 (Lib.deBruijn64tab.map fun n : Nat => (n : Int)) :=
    Lib.tabIs_of_head (rest := []) gTab gTabType Tryd.underlying99 Tryd.underlying5 cells5 cells99 h
  intro j hj
  have := ht.cell gTab j (by rw [List.length_map]; exact hj)
  rw [this, getD_nats]

/-- A struct of six one-cell fields, by value. -/
theorem agg6_open {H : Type} {enc : TypeId × Value → H} {P : Program} {W : World} {r : Reach} {b0 : Nat} {t : TypeId} {f0 f1 f2 f3 f4 f5 : Field} {v : Value} {d : DataW H} {p : List MemPlace} (hs : P.underlying t = some (.struct #[f0, f1, f2, f3, f4, f5])) (hone : oneCellFields P #[f0, f1, f2, f3, f4, f5] = true) (hC : P.cellsOf t = 6)
    (hv : Value.okWide P W r b0 t v) (h : DataW.Trod enc P W 0 (fun _ => true) true t v d p) :
    ∃ (v0 v1 v2 v3 v4 v5 : Value) (y0 y1 y2 y3 y4 y5 : DataW H × List MemPlace) (n : Nat), v = .agg #[v0, v1, v2, v3, v4, v5] ∧ d = .agg [y0.1, y1.1, y2.1, y3.1, y4.1, y5.1] ∧
      DataW.trod enc P W 0 (fun _ => true) true n f0.type [v0] = some y0 ∧ DataW.trod enc P W 0 (fun _ => true) true n f1.type [v1] = some y1 ∧ DataW.trod enc P W 0 (fun _ => true) true n f2.type [v2] = some y2 ∧ DataW.trod enc P W 0 (fun _ => true) true n f3.type [v3] = some y3 ∧ DataW.trod enc P W 0 (fun _ => true) true n f4.type [v4] = some y4 ∧ DataW.trod enc P W 0 (fun _ => true) true n f5.type [v5] = some y5 := by
  obtain ⟨cs, rfl, hsz⟩ := okWide_struct hs hv
  obtain ⟨l⟩ := cs
  match l, hsz.trans hC with
  | [c0, c1, c2, c3, c4, c5], _ =>
    obtain ⟨fuel, hf⟩ := h
    obtain ⟨xs, n, _, hx, _, hlen, hg⟩ := DataW.trod_struct hs hf
    obtain ⟨o0, k0⟩ := hone_of hone 0 f0 rfl
    obtain ⟨o1, k1⟩ := hone_of hone 1 f1 rfl
    obtain ⟨o2, k2⟩ := hone_of hone 2 f2 rfl
    obtain ⟨o3, k3⟩ := hone_of hone 3 f3 rfl
    obtain ⟨o4, k4⟩ := hone_of hone 4 f4 rfl
    obtain ⟨o5, k5⟩ := hone_of hone 5 f5 rfl
    match xs, hlen with
    | [y0, y1, y2, y3, y4, y5], _ =>
      simp only [Prod.mk.injEq] at hx
      exact ⟨c0, c1, c2, c3, c4, c5, y0, y1, y2, y3, y4, y5, n, rfl, by simpa using hx.1, by simpa [Value.cells, o0, k0] using hg 0 f0 rfl, by simpa [Value.cells, o1, k1] using hg 1 f1 rfl, by simpa [Value.cells, o2, k2] using hg 2 f2 rfl, by simpa [Value.cells, o3, k3] using hg 3 f3 rfl, by simpa [Value.cells, o4, k4] using hg 4 f4 rfl, by simpa [Value.cells, o5, k5] using hg 5 f5 rfl⟩


section
variable {H : Type} {enc : TypeId × Value → H} {W : World}

theorem ints_open {n : Nat} {v : Value} {x : DataW H × List MemPlace} (h : DataW.trod enc Tryd.prog W 0 (fun _ => true) true n 22 [v] = some x) (hs : (x.1.weights Tryd.prog 22).all (· ≤ reachBytes) = true) :
    ∃ (A : Option Addr) (xs : List Int) (c : Nat), v = .slice A xs.length c ∧ xs.length ≤ c ∧ xs.length ≤ big ∧ IntsAt W A xs := by
  rcases open_ints Tryd.underlying22 Tryd.underlying3 cells3 h with ⟨e, -⟩ | ⟨a, len, cap, zs, e, -, hl, -, hz, hx, hc, -⟩
  · have e2 : v = .slice none 0 0 := by simpa using e
    exact ⟨none, [], 0, e2, Nat.le_refl _, Nat.zero_le _, fun h => by cases h⟩
  · have e2 : v = .slice (some a) len cap := by simpa using e
    simp only [if_true] at hz
    have hb : cap ≤ big := by
      rw [hx] at hs
      simp only [DataW.weights, Tryd.underlying22, List.all_cons, Bool.and_eq_true, bytes3] at hs
      have h1 := of_decide_eq_true hs.1
      simp only [reachBytes, lits, List.length_map, List.length_take, List.length_drop] at h1
      unfold big
      omega
    have hlen : (zs.take len).length = len := by rw [List.length_take]; omega
    refine ⟨some a, zs.take len, cap, by rw [hlen]; exact e2, by omega, by omega, fun _ => ⟨a, rfl, fun j hj => ?_⟩⟩
    rw [hlen] at hj
    rw [hc j (by omega)]
    simp [List.getD_eq_getElem?_getD, hj]

theorem mem_weightsAll {e : TypeId} : ∀ {l : List (DataW H)} {d : DataW H}, d ∈ l → ∀ n ∈ d.weights Tryd.prog e, n ∈ DataW.weightsAll Tryd.prog e l
  | d0 :: l, d, hd, n, hn => by
    rw [DataW.weightsAll, List.mem_append]
    rcases List.mem_cons.1 hd with rfl | h
    · exact .inl hn
    · exact .inr (mem_weightsAll h n hn)

theorem rows_open {n : Nat} {v : Value} {x : DataW H × List MemPlace} (h : DataW.trod enc Tryd.prog W 0 (fun _ => true) true n 23 [v] = some x) (hs : (x.1.weights Tryd.prog 23).all (· ≤ reachBytes) = true) :
    ∃ (A : Option Addr) (xss : List (List Int)) (c : Nat), v = .slice A xss.length c ∧ xss.length ≤ c ∧ xss.length ≤ big ∧ (∀ r, (xss.getD r []).length ≤ big) ∧ RowsAt W A xss := by
  rcases open_int_rows Tryd.underlying23 Tryd.underlying22 Tryd.underlying3 cells22 cells3 h with ⟨e, -⟩ | ⟨a, len, cap, A, L, C, Z, e, -, hl, -, hx, hr⟩
  · have e2 : v = .slice none 0 0 := by simpa using e
    exact ⟨none, [], 0, e2, Nat.le_refl _, Nat.zero_le _, fun r => by simp, fun h => by cases h⟩
  · have e2 : v = .slice (some a) len cap := by simpa using e
    rw [hx] at hs
    have hall := hs
    simp only [DataW.weights, Tryd.underlying23, List.all_cons, Bool.and_eq_true, bytes22] at hs
    have hb : cap ≤ big := by
      have h1 := of_decide_eq_true hs.1
      simp only [reachBytes, List.length_map, List.length_range] at h1
      unfold big
      omega
    have hget : ∀ r, r < len → ((List.range len).map fun r => (Z r).take (L r)).getD r [] = (Z r).take (L r) := fun r hr => getD_lists _ hr
    have hrow : ∀ r, r < len → ((Z r).take (L r)).length = L r := fun r hr2 => by
      have := hr r (by omega)
      rw [List.length_take]; omega
    have hbr : ∀ r, r < len → L r ≤ big := fun r hr2 => by
      obtain ⟨-, h1, -, h3, -, h5, -⟩ := hr r (by omega)
      have hm := mem_weightsAll (e := 22) (l := (List.range len).map fun r => intRow (H := H) .i64 (A r) (L r) (Z r)) (d := intRow .i64 (A r) (L r) (Z r)) (List.mem_map.2 ⟨r, List.mem_range.2 hr2, rfl⟩)
      cases hA : A r with
      | none => have := h5 hA; unfold big; omega
      | some a' =>
        rw [hA] at hm
        have h6 := hm ((lits (H := H) .i64 ((Z r).take (L r))).length * 8 + (lits (H := H) .i64 ((Z r).drop (L r))).length * 8) (by
          simp only [intRow, DataW.weights, Tryd.underlying22, bytes3]
          rw [← Nat.add_mul]
          exact List.mem_cons_self ..)
        have h7 := List.all_eq_true.1 hs.2 _ (List.mem_append.2 (.inl h6))
        replace h7 := of_decide_eq_true h7
        simp only [reachBytes, lits, List.length_map, List.length_take, List.length_drop] at h7
        unfold big
        omega
    refine ⟨some a, (List.range len).map fun r => (Z r).take (L r), cap, by simpa using e2, by simpa using hl, by simp; omega, fun r => ?_, fun _ => ⟨a, rfl, fun j hj => ?_⟩⟩
    · by_cases h : r < len
      · rw [hget r h, hrow r h]; exact hbr r h
      · rw [List.getD_eq_getElem?_getD, List.getElem?_eq_none (by simp; omega)]; exact Nat.zero_le _
    · have hj2 : j < len := by simpa using hj
      obtain ⟨h1, h2, h3, h4, -, h6, h7⟩ := hr j (by omega)
      refine ⟨A j, C j, ?_, ?_, ?_⟩
      · rw [hget j hj2, hrow j hj2]; exact h1
      · rw [hget j hj2, hrow j hj2]; exact h2
      · rw [hget j hj2]
        intro h0
        rw [hrow j hj2] at h0
        obtain ⟨a', ha'⟩ : ∃ a', A j = some a' := by
          cases hA : A j with
          | none => have := h6 hA; omega
          | some a' => exact ⟨a', rfl⟩
        refine ⟨a', ha', fun i hi => ?_⟩
        rw [hrow j hj2] at hi
        rw [(h7 a' ha').2 i (by omega)]
        simp [List.getD_eq_getElem?_getD, hi]

theorem all_app {p : Nat → Bool} {a b : List Nat} (h : (a ++ b).all p = true) : a.all p = true ∧ b.all p = true := by
  rw [List.all_append, Bool.and_eq_true] at h; exact h

set_option maxRecDepth 100000 in
/-- A problem's value, opened. -/
theorem inst_open {r : Reach} {b0 : Nat} {v : Value} {d : DataW H} {p : List MemPlace} (hv : Value.okWide Tryd.prog W r b0 25 v) (h : DataW.Trod enc Tryd.prog W 0 (fun _ => true) true 25 v d p) (hs : (d.weights Tryd.prog 25).all (· ≤ reachBytes) = true) :
    ∃ I, InstAt W v I := by
  obtain ⟨v0, v1, v2, v3, v4, v5, y0, y1, y2, y3, y4, y5, n, rfl, rfl, t0, t1, t2, t3, t4, t5⟩ := agg6_open Tryd.underlying25 (by kernel_rfl) cells25 hv h
  simp only [DataW.weights, Tryd.underlying25, List.map_cons, List.map_nil, DataW.weightsEach, List.append_nil] at hs
  have hs3 := (all_app (all_app (all_app (all_app hs).2).2).2)
  have hs4 := all_app hs3.2
  obtain ⟨k, e0, -⟩ := DataW.trod_int Tryd.underlying3 t0
  obtain ⟨m, e1, -⟩ := DataW.trod_int Tryd.underlying3 t1
  obtain ⟨c, e2, -⟩ := DataW.trod_int Tryd.underlying3 t2
  obtain rfl : v0 = .int .i64 k := by simpa using e0
  obtain rfl : v1 = .int .i64 m := by simpa using e1
  obtain rfl : v2 = .int .i64 c := by simpa using e2
  obtain ⟨A1, ws, c1, rfl, a1, a2, a3⟩ := ints_open t3 hs3.1
  obtain ⟨A2, vs, c2, rfl, b1, b2, b3⟩ := ints_open t4 hs4.1
  obtain ⟨A3, xss, c3, rfl, d1, d2, d3, d4⟩ := rows_open t5 hs4.2
  exact ⟨⟨k, m, c, ws, vs, xss⟩, A1, c1, A2, c2, A3, c3, rfl, a1, b1, d1, a2, b2, d2, d3, a3, b3, d4⟩

/-- Arguments read as before behind a call that leaves all as it was. -/
theorem trodAll_keep {W' : World} (hb : Below W.heap.size W W') {sp : Nat → Bool} : ∀ {ts : List TypeId} {vs : List Value} {ds : List (DataW H)} {ps : List MemPlace}, (∀ t ∈ ts, Tryd.prog.readableRec t = true ∧ t < Tryd.prog.types.size) →
    DataW.TrodAll enc Tryd.prog W 0 (fun _ => true) true ts vs ds ps → (∀ x ∈ ps, x.block < W.heap.size) → (∀ x ∈ ps, sp x.block = true) → DataW.TrodAll enc Tryd.prog W' 0 sp true ts vs ds ps
  | [], vs, ds, ps, _, h, _, _ => by
    obtain ⟨rfl, rfl, rfl⟩ := trodAll_nil h
    exact rfl
  | t :: ts, vs, ds, ps, ht, h, hl, hsp => by
    obtain ⟨v, vs', d, ds', p, q, rfl, rfl, rfl, h1, h2⟩ := trodAll_cons h
    have h3 := ht t (List.mem_cons_self ..)
    exact trodAll_cons_mk (WideElems.Trod_stays row_laidOut h3.1 h3.2 h1 (fun x hx => hb.same (hl x (List.mem_append.2 (.inl hx)))) fun x hx => hsp x (List.mem_append.2 (.inl hx)))
      (trodAll_keep hb (fun t ht' => ht t (List.mem_cons_of_mem _ ht')) h2 (fun x hx => hl x (List.mem_append.2 (.inr hx))) fun x hx => hsp x (List.mem_append.2 (.inr hx)))

set_option maxRecDepth 100000 in
/-- What the specification asks, of a call that answers true and leaves all as it was. -/
theorem post_true {f : Func} {s : ChangeSpec} {W' : World} {args : Array Value} {ds gs : List (DataW H)} {before : List MemPlace} (hW : DataW.Whole enc Tryd.prog f.params.toList s.vars false W args.toList ds gs before) (hvars : s.vars = []) (hr : f.resultTypes = #[4])
    (hspec : s.fn H ds = { results := [.lit (.bool true)], args := ds }) (ht : ∀ t ∈ f.params.toList, Tryd.prog.readableRec t = true ∧ t < Tryd.prog.types.size) (hb : Below W.heap.size W W') :
    s.post enc Tryd.prog f false true false false W args (.bool true) W' := by
  have hlt := hW.lt
  have hfz0 := hW
  obtain ⟨p, q, hA, hV, rfl, hfz, hnd⟩ := hfz0
  rw [hvars] at hV
  obtain ⟨rfl, rfl⟩ := trodVars_none hV
  have hl : ∀ x ∈ p, x.block < W.heap.size := fun x hx => hlt x (by simpa using hx)
  refine ⟨ds, [], p ++ [], [], p, [], hW, ?_, ?_, ?_, World.keptBut_mono (fun x hx => ⟨hx, .inr (.inl (by simpa using hx))⟩) (hb.frame _), fun h => by cases h⟩
  · rw [List.append_nil, hspec, hr]
    exact trodAll_mk1 (shut_bool Tryd.underlying4 _)
  · rw [List.append_nil, hspec]
    exact trodAll_keep hb ht hA hl fun x hx => by simpa using hl x hx
  · rw [List.append_nil, hspec, hvars]; rfl
end
end Go.Proofs.YtmfgffmlnfimcaaDoor
