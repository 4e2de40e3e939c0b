/- The walk of minor. -/
import Derived.Test.YtmfgffmlnfimcaaDoorWo
namespace Go.Proofs.YtmfgffmlnfimcaaDoor
open Go Go.RowKit Go.Shelf Go.Sort Go.Deep

/-- A list without one of its elements; the numbers but one. -/
def del (l : List Int) (c : Nat) : List Int := l.take c ++ l.drop (c + 1)
def sk (k m : Nat) : Nat := if m < k then m else m + 1
theorem del_len {l : List Int} {c n : Nat} (h : l.length = n + 1) (hc : c ≤ n) : (del l c).length = n := by
  unfold del; rw [List.length_append, List.length_take, List.length_drop]; omega
theorem del_get {l : List Int} {c n : Nat} (h : l.length = n + 1) (hc : c ≤ n) {j : Nat} (_ : j < n) : (del l c).getD j 0 = l.getD (sk c j) 0 := by
  unfold del sk
  simp only [List.getD_eq_getElem?_getD]
  by_cases e : j < c
  · rw [if_pos e, List.getElem?_append_left (by rw [List.length_take]; omega), List.getElem?_take, if_pos e]
  · rw [if_neg e, List.getElem?_append_right (by rw [List.length_take]; omega), List.length_take, List.getElem?_drop]
    congr 2
    omega
def minorL (xss : List (List Int)) (n rw col : Nat) : List (List Int) := (List.range n).map fun m => del (xss.getD (sk rw m) []) col
theorem minorL_get (xss : List (List Int)) {n rw col m : Nat} (hm : m < n) : (minorL xss n rw col).getD m [] = del (xss.getD (sk rw m) []) col := getD_rows _ hm

theorem minor_count {k m rw_ : Nat} (h : m = if k ≤ rw_ then k else k - 1) (hc : ¬ k = rw_) : m + 1 = if k + 1 ≤ rw_ then k + 1 else k + 1 - 1 := by
  by_cases c : k ≤ rw_
  · rw [if_pos c] at h
    rw [if_pos (by omega)]; omega
  · rw [if_neg c] at h
    rw [if_neg (by omega)]; omega
theorem RowsO.rowsAt {w : World} {B : Nat} {v : Value} {xss : List (List Int)} {k : Nat} {r cp : Nat → Nat} (h : RowsO w B v xss k r cp) (hk : xss.length = k) : ∃ A c, v = .slice A k c ∧ k ≤ c ∧ RowsAt w A xss := by
  rcases h.own.2 with ⟨e, h0⟩ | ⟨g, cap, cur, e, hb, hg, hc, hm, hs, ht⟩
  · subst h0
    exact ⟨none, 0, e, Nat.le_refl _, fun h1 => by omega⟩
  · refine ⟨some ⟨g, 0, none⟩, cap, e, hc, fun _ => ⟨_, rfl, fun j hj => ?_⟩⟩
    rw [hk] at hj
    have h4 : (cur.toList.take (k * 1))[j]? = ((List.range k).map fun j => Value.slice (some ⟨r j, 0, none⟩) (xss.getD j []).length (cp j))[j]? := by rw [ht]
    rw [List.getElem?_take, if_pos (by omega), List.getElem?_map, List.getElem?_range hj, Array.getElem?_toList] at h4
    obtain ⟨a1, a2, a3, a4⟩ := h.rows j hj
    refine ⟨some ⟨r j, 0, none⟩, cp j, ?_, a1, a2.ints rfl fun i _ => rfl⟩
    rw [row_slice, blk_cell hg, h4]; rfl
theorem RowsO.keep {w w' : World} {B : Nat} {v : Value} {xss : List (List Int)} {k : Nat} {r cp : Nat → Nat} (h : RowsO w B v xss k r cp) (hb : Below w.heap.size w w') : RowsO w' B v xss k r cp :=
  ⟨own_keep h.own hb, fun j hj => by
    obtain ⟨a1, a2, a3, a4⟩ := h.rows j hj
    exact ⟨a1, Row.keep (S := fun _ => False) a2 (Keep.of_below hb) (fun h => h), a3, a4⟩, h.inj⟩

set_option maxRecDepth 200000 in
set_option maxHeartbeats 2000000 in
/-- minor: costs without a row and a column. -/
theorem minor_any (xss : List (List Int)) (n rw_ col c : Nat) (A : Option Addr) (w : World) (hR : RowsAt w A xss) (hl : xss.length = n + 1) (hr : ∀ r, r < n + 1 → (xss.getD r []).length = n + 1) (hrw : rw_ ≤ n) (hcol : col ≤ n) (hn : n ≤ 23) :
    Calls Tryd.prog 13 #[.slice A (n + 1) c, .int .i64 (rw_ : Int), .int .i64 (col : Int)] w fun e w' => (∃ A' c', e = .returned (.slice A' n c') ∧ n ≤ c' ∧ RowsAt w' A' (minorL xss n rw_ col)) ∧ Below w.heap.size w w' := by
  have HR0 := Lib.hid hR
  have HL0 := Lib.hid hl
  have HR1 := Lib.hid hr
  have hk24 : ∀ k : Nat, k ≤ 24 → (k + 1) * 24 ≤ 140737488355328 := fun k hk => by omega
  have HK24 := Lib.hid hk24
  clear hR hl hr hk24
  go_enter Tryd.func13, Tryd.ntmps13
  go_wp2
  go_loopg [7, 8] (n + 1) (fun gg v7 v8 wr => ∃ (k m : Nat) (r cp : Nat → Nat), v8 = .int .i64 k ∧ k + gg = n + 1 ∧ m = (if k ≤ rw_ then k else k - 1) ∧ Hid (RowsO wr w.heap.size v7 (minorL xss n rw_ col) m r cp) ∧ Hid (Below w.heap.size w wr))
  case atStart => exact ⟨0, 0, _, _, rfl, by omega, by simp, Lib.hid (RowsO.nil _ _ _), Lib.hid (Below.refl _ _)⟩
  case round =>
    obtain ⟨k, m, r, cp, rfl, hk, hm, HR, HB⟩ := hrel
    have hBs := HB.out.size
    by_cases ck : k < n + 1
    · have hki : (k : Int) < (n : Int) + 1 := by omega
      by_cases cr : k = rw_
      · have hne : ((k : Int) != (rw_ : Int)) = false := by simp [cr]
        have HCR := Lib.hid cr
        have HM := Lib.hid hm
        clear cr hm
        go_wp2
        go_roundg (gk - 1)
        case measure => omega
        case rel => exact ⟨k + 1, m, r, cp, by go_num, by omega, by have := HCR.out; have := HM.out; rw [if_pos (by omega)] at this; rw [if_neg (by omega)]; omega, HR, HB⟩
      · have hne : ((k : Int) != (rw_ : Int)) = true := by simp; omega
        have hmn : m < n := by split at hm <;> omega
        have hsk : sk rw_ m = k := by unfold sk; split at hm <;> split <;> omega
        obtain ⟨ad, Br, crr, e1, hx, hxc, hBA⟩ := (HR0.out.keep HB.out).at_ (j := k) (by rw [HL0.out]; exact ck)
        subst e1
        rw [HR1.out k ck] at hx hxc
        obtain ⟨adr, e2, hcs⟩ := hBA (by rw [HR1.out k ck]; omega)
        subst e2
        have hwo := fun W (hW : Below wr.heap.size wr W) => without_any adr crr (xss.getD k []) col W (fun j hj => cell_keep hW (hcs j hj)) (by rw [HR1.out k ck]; omega) (by rw [HR1.out k ck]; omega) (by rw [HR1.out k ck]; exact hxc)
        rw [HR1.out k ck] at hwo
        have HWO := Lib.hid hwo
        have hrow : (minorL xss n rw_ col).getD m [] = del (xss.getD k []) col := by rw [minorL_get xss hmn, hsk]
        have hdl : (del (xss.getD k []) col).length = n := del_len (HR1.out k ck) hcol
        have HROW := Lib.hid hrow
        have HDL := Lib.hid hdl
        have HM := Lib.hid hm
        have HCR := Lib.hid cr
        clear hBA hcs hwo hrow hdl hm hsk cr
        go_wp2_with fail
        refine (HWO.out _ (Below.refl _ _)).mono ?_
        rintro e w4 ⟨⟨v', rfl, hown⟩, hb4⟩
        have hown2 : OwnI w4 wr.heap.size v' (del (xss.getD k []) col) := hown
        obtain ⟨g, c', e, hg, hc', hA⟩ := hown2.arr (fun e => by have := HDL.out; rw [e] at this; simp at this; omega)
        subst e
        rw [HDL.out] at hc' hA ⊢
        have HQ := Lib.hid (And.intro hg (And.intro hc' (And.intro hA hb4)))
        have hB4 : w.heap.size ≤ w4.heap.size := by have := hb4.size; omega
        have hk24 := HK24.out m (by omega)
        have hk25 : m ≤ 17592186044000 := by omega
        clear hown hown2 hg hA hb4
        go_wp2_with (at_builtin; refine append_row rfl _ _ rfl w.heap.size u7 m _ rfl w4 (own_keep HR.out.own HQ.out.2.2.2) (.slice (some ⟨g, 0, none⟩) n c') rfl rfl hk25 hk24 hB4 ?_)
        intro v5 w5 h1 h2 h3 h4
        have HX := Lib.hid (And.intro h1 (And.intro h2 (And.intro h3 h4)))
        clear h1 h2 h3 h4
        go_wp2
        go_roundg (gk - 1)
        case measure => omega
        case rel =>
          obtain ⟨h1, h2, h3, h4⟩ := HX.out
          obtain ⟨hg, hc2, hA, hb4⟩ := HQ.out
          have hlen : ((minorL xss n rw_ col).getD m []).length = n := by rw [HROW.out]; exact HDL.out
          refine ⟨k + 1, m + 1, upd r m g, upd cp m c', by go_num, by omega, minor_count HM.out HCR.out, Lib.hid ?_, Lib.hid ((HB.out.trans (hb4.mono HB.out.size)).trans h2)⟩
          exact RowsO.more HR.out HB.out.size hb4 hg (by rw [hlen]; exact hc2) (by rw [hlen, HROW.out]; exact hA) (by rw [hlen]; exact h1) h3 h4
    · have ek : k = n + 1 := by omega
      have hmn : m = n := by split at hm <;> omega
      subst hmn
      have hki : ¬ (k : Int) < (m : Int) + 1 := by omega
      obtain ⟨A', c', e, hc', hRA⟩ := HR.out.rowsAt (by unfold minorL; simp)
      subst e
      have HRA := Lib.hid hRA
      clear hRA hm ek
      go_wp2
      go_ret
      exact ⟨⟨A', c', rfl, hc', HRA.out⟩, HB.out⟩
end Go.Proofs.YtmfgffmlnfimcaaDoor
