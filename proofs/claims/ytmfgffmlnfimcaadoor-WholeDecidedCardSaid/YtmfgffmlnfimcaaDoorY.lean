/- Matrices of the call's own in memory, as inst.Copy leaves them. -/
import Derived.Test.YtmfgffmlnfimcaaDoorX
import Derived.Test.YtmfgffmlnfimcaaDoorM5
import Derived.Test.YtmfgffmlnfimcaaDoorW
namespace Go.Proofs.YtmfgffmlnfimcaaDoor
open Go Go.RowKit Go.Shelf Go.Sort

/-- Rows in memory that the call may write. -/
structure Mat (w : World) (B g n : Nat) (r cp : Nat → Nat) (f : Nat → Nat → Int) : Prop where
  row : Row w g 22 n fun j => .slice (some ⟨r j, 0, none⟩) n (cp j)
  arr : ∀ j, j < n → Arr w (r j) n (f j)
  far : ∀ j, j < n → n ≤ cp j ∧ B ≤ r j ∧ r j ≠ g
  inj : ∀ i j, i < n → j < n → r i = r j → i = j
  ge : B ≤ g

theorem Mat.set {w : World} {B g n : Nat} {r cp : Nat → Nat} {f : Nat → Nat → Int} (h : Mat w B g n r cp f) {a : Nat} (ha : a < n) (b : Nat) (x : Int) : Mat (w.setCell ⟨r a, b, none⟩ (.int .i64 x)) B g n r cp (upd f a (upd (f a) b x)) := by
  refine ⟨h.row.far (by show g ≠ r a; exact fun e => (h.far a ha).2.2 e.symm) _, fun j hj => ?_, h.far, h.inj, h.ge⟩
  by_cases e : j = a
  · subst e
    rw [upd_same]
    exact (h.arr j hj).set b x
  · rw [upd_other _ e]
    exact Row.far (h.arr j hj) (by show r j ≠ r a; exact fun e2 => e (h.inj j a hj ha e2)) _
theorem Mat.congr {w : World} {B g n : Nat} {r cp : Nat → Nat} {f f' : Nat → Nat → Int} (h : Mat w B g n r cp f) (e : ∀ a b, a < n → b < n → f a b = f' a b) : Mat w B g n r cp f' :=
  ⟨h.row, fun j hj => (h.arr j hj).congr fun b hb => e j b hj hb, h.far, h.inj, h.ge⟩
theorem Mat.keep {S : Nat → Prop} {w w' : World} {B g n : Nat} {r cp : Nat → Nat} {f : Nat → Nat → Int} (h : Mat w B g n r cp f) (hk : Keep S w w') (hg : ¬ S g) (hr : ∀ j, j < n → ¬ S (r j)) : Mat w' B g n r cp f :=
  ⟨h.row.keep hk hg, fun j hj => Row.keep (h.arr j hj) hk (hr j hj), h.far, h.inj, h.ge⟩
theorem Mat.below {w w' : World} {B g n : Nat} {r cp : Nat → Nat} {f : Nat → Nat → Int} (h : Mat w B g n r cp f) (hb : Below w.heap.size w w') : Mat w' B g n r cp f :=
  h.keep (S := fun _ => False) (Keep.of_below hb) (fun h => h) (fun _ _ h => h)

theorem row_slice (g j : Nat) : (⟨g, 0, none⟩ : Addr).add j = ⟨g, j, none⟩ := by unfold Addr.add; split <;> simp_all

theorem Mat.rows {w : World} {B g n : Nat} {r cp : Nat → Nat} {f : Nat → Nat → Int} (h : Mat w B g n r cp f) : RowsAt w (some ⟨g, 0, none⟩) ((List.range n).map fun a => (List.range n).map fun b => f a b) := by
  intro _
  refine ⟨_, rfl, fun j hj => ?_⟩
  have hjn : j < n := by simpa using hj
  rw [row_slice, getD_rows _ hjn]
  refine ⟨some ⟨r j, 0, none⟩, cp j, by rw [h.row.cell hjn]; simp, by simp; exact (h.far j hjn).1, fun h0 => ⟨_, rfl, fun i hi => ?_⟩⟩
  have hin : i < n := by simpa using hi
  rw [row_slice, getD_row _ hin, (h.arr j hjn).cell hin]

theorem RowsO.mat {w : World} {B : Nat} {v : Value} {xss : List (List Int)} {n : Nat} {r cp : Nat → Nat} (h : RowsO w B v xss n r cp) (hn : 0 < n) (hl : ∀ j, j < n → (xss.getD j []).length = n) :
    ∃ g c, v = .slice (some ⟨g, 0, none⟩) n c ∧ n ≤ c ∧ Mat w B g n r cp fun a b => (xss.getD a []).getD b 0 := by
  rcases h.own.2 with ⟨_, h0⟩ | ⟨g, cap, cur, e, hb, hg, hc, hm, hs, ht⟩
  · omega
  · refine ⟨g, cap, e, hc, ⟨cur, hg, by omega, fun j hj => ?_⟩, fun j hj => ?_, fun j hj => ?_, h.inj, hb⟩
    · have h4 : (cur.toList.take (n * 1))[j]? = ((List.range n).map fun j => Value.slice (some ⟨r j, 0, none⟩) (xss.getD j []).length (cp j))[j]? := by rw [ht]
      rw [List.getElem?_take, if_pos (by omega), List.getElem?_map, List.getElem?_range hj, Array.getElem?_toList] at h4
      rw [h4]
      simp only [Option.map_some]
      rw [hl j hj]
    · have := (h.rows j hj).2.1
      rwa [hl j hj] at this
    · obtain ⟨a, _, c, d⟩ := h.rows j hj
      rw [hl j hj] at a
      refine ⟨a, c, fun e2 => d ?_⟩
      rw [e, e2]; rfl

/-- The value that Go hands on for a problem with these costs. -/
theorem instAt_mat {I : Inst} {w : World} {B g n : Nat} {r cp : Nat → Nat} {f : Nat → Nat → Int} {c : Nat} {A8 A11 : Option Addr} {c8 c11 : Nat} (hI : WF I) (hk : I.kind ≠ 1) (hn : I.n = (n : Int)) (hn24 : n ≤ 24) (h : Mat w B g n r cp f) (hc : n ≤ c) :
    InstAt w (.agg #[.int .i64 I.kind, .int .i64 I.n, .int .i64 I.cap, .slice A8 0 c8, .slice A11 0 c11, .slice (some ⟨g, 0, none⟩) n c]) (setC I n f) := by
  obtain ⟨m, hm, -, -, -, -, -, hw, hv, -⟩ := hI.rows hk
  refine ⟨A8, c8, A11, c11, some ⟨g, 0, none⟩, c, ?_, ?_, ?_, ?_, ?_, ?_, ?_, ?_, ?_, ?_, ?_⟩
  · unfold setC
    dsimp only
    rw [hw, hv]
    simp
  · rw [show (setC I n f).ws = [] from hw]; exact Nat.zero_le _
  · rw [show (setC I n f).vs = [] from hv]; exact Nat.zero_le _
  · rw [setC_len]; exact hc
  · rw [show (setC I n f).ws = [] from hw]; exact Nat.zero_le _
  · rw [show (setC I n f).vs = [] from hv]; exact Nat.zero_le _
  · rw [setC_len]; unfold big; omega
  · intro q
    by_cases hq : q < n
    · rw [setC_row I f hq]; unfold big; omega
    · have : (setC I n f).cost.getD q [] = [] := by
        unfold setC
        dsimp only
        rw [List.getD_eq_getElem?_getD, List.getElem?_eq_none (by simp; omega)]; rfl
      rw [this]; exact Nat.zero_le _
  · rw [show (setC I n f).ws = [] from hw]; intro h0; cases h0
  · rw [show (setC I n f).vs = [] from hv]; intro h0; cases h0
  · exact h.rows
end Go.Proofs.YtmfgffmlnfimcaaDoor
