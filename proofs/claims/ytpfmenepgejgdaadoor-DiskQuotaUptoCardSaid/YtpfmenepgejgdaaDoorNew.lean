/-
  THE PACKAGE disk: New, Now, Lasts, Count, Off, On. Own work.
-/
import Derived.Test.YtpfmenepgejgdaaDoorDisk
import Derived.Deep.RegionHeld3
namespace Go.Proofs.YtpfmenepgejgdaaDoor
open Go.RowKit

theorem d2T {w4 W : World} {P1 : Prop} (h : P1 ∧ Below w4.heap.size w4 W) : Below w4.heap.size w4 W := h.2
theorem d2B {w w4 W : World} {P1 : Prop} (hb : Below w.heap.size w w4) (h : P1 ∧ Below w4.heap.size w4 W) : Below w.heap.size w W := hb.trans (h.2.mono hb.size)
theorem d2N {w4 W w5 : World} {P1 : Prop} (h : P1 ∧ Below w4.heap.size w4 W) (hb : Below W.heap.size W w5) : Below w4.heap.size w4 w5 := h.2.trans (hb.mono h.2.size)

theorem TreeV.ents {w : World} {u : Value} {es : List Ent} (h : TreeV w (.agg #[u]) es) : Ents w u es := by
  obtain ⟨u', hu, h⟩ := h
  injection hu with hu
  injection hu with hu
  injection hu with hu _
  rw [hu]; exact h
def newOk (es : List Ent) (q : Int) : Bool := goodT es && decide (0 ≤ q) && decide (q ≤ 16384)
def dsk0 (es : List Ent) (q : Int) : Dsk := ⟨q, es, es, [], false, 0, 0, [], 0⟩
def NewPost (base : Nat) (es : List Ent) (q : Int) (w : World) (x : Ending) (w' : World) : Prop :=
  if newOk es q then ∃ b, x = .returned (.tuple #[.pointer (some ⟨b, 0, none⟩), .int .i64 0]) ∧ DiskAt w' base b (dsk0 es q) ∧ w.heap.size ≤ b ∧ Below w.heap.size w w'
  else x = .returned (.tuple #[.pointer none, .int .i64 1]) ∧ Below w.heap.size w w'

set_option maxHeartbeats 1000000 in
theorem dnew_any (base : Nat) (es : List Ent) (q : Int) (v : Value) (m : Int) (w : World) (hbase : base ≤ w.heap.size) (h : TreeV w v es) (hn : es.length ≤ 1048576) (hc : cnt es ≤ 1048576) (hz : ∀ e ∈ es, e.path.size ≤ 1048576) (hm : Mx m w) :
    Calls Tryd.prog 27 #[v, .int .i64 q] w (NewPost base es q w) := by
  have C1 := Lib.hid (fun w1 (hb : Below w.heap.size w w1) => treeGood_any es v m w1 (h.below hb) hn hc hz (hm.below hb))
  have C2 := Lib.hid (fun w1 (hb : Below w.heap.size w w1) => dcopied_any es v w1 (h.below hb) hn hc)
  obtain ⟨A, c, rfl⟩ := tpost_form h
  clear h hz
  have B0 := (Below.refl w.heap.size w).alloc (Nat.le_refl _) (.cells #[.slice A es.length c] 25)
  cases hno : newOk es q with
  | false =>
    have NO : Hid (newOk es q = false) := hno
    cases hg : goodT es with
    | false =>
      have G := Lib.hid hg
      clear hg hno
      go_enter Tryd.func27, Tryd.ntmps27
      go_wp2_with (go_at_call 9; (with_reducible refine (C1.out _ B0).mono ?_); rintro x w1 ⟨rfl, hb1⟩; rw [G.out])
      go_ret2
      show NewPost _ _ _ _ _ _
      rw [NewPost, NO.out]
      exact ⟨rfl, B0.trans (hb1.mono (by simp))⟩
    | true =>
      have G := Lib.hid hg
      rw [newOk, hg] at hno
      by_cases hq : 0 ≤ q
      · have hq2 : ¬ q ≤ 16384 := by
          intro h
          rw [decide_eq_true hq, decide_eq_true h] at hno
          cases hno
        clear hg hno
        go_enter Tryd.func27, Tryd.ntmps27
        go_wp2_with (go_at_call 9; (with_reducible refine (C1.out _ B0).mono ?_); rintro x w1 ⟨rfl, hb1⟩; rw [G.out])
        go_ret2
        show NewPost _ _ _ _ _ _
        rw [NewPost, NO.out]
        exact ⟨rfl, B0.trans (hb1.mono (by simp))⟩
      · clear hg hno
        have hq2 : q ≤ 16384 := by omega
        go_enter Tryd.func27, Tryd.ntmps27
        go_wp2_with (go_at_call 9; (with_reducible refine (C1.out _ B0).mono ?_); rintro x w1 ⟨rfl, hb1⟩; rw [G.out])
        go_ret2
        show NewPost _ _ _ _ _ _
        rw [NewPost, NO.out]
        exact ⟨rfl, B0.trans (hb1.mono (by simp))⟩
  | true =>
    have NO : Hid (newOk es q = true) := hno
    simp only [newOk, Bool.and_eq_true, decide_eq_true_eq] at hno
    obtain ⟨⟨hg, hq⟩, hq2⟩ := hno
    have G := Lib.hid hg
    clear hg
    go_enter Tryd.func27, Tryd.ntmps27
    go_upto_region 3 with (go_at_call 9; (with_reducible refine (C1.out _ B0).mono ?_); rintro x w1 ⟨rfl, hb1⟩; rw [G.out]; have q0 := (((Bk.new w 25 #[.slice A es.length c])).after hb1).cell 0)
    simp only [List.getElem?_toArray, List.getElem?_cons_zero] at q0
    have hb01 := B0.trans (hb1.mono (by simp))
    have tok1 : True := trivial
    go_region_held3 (fun w' => w'.cell? ⟨w.heap.size, 0, none⟩ = some (.slice A es.length c) ∧ Below w1.heap.size w1 w')
      (refine ⟨cell_below (w := w1) ?_ q0, ?_⟩ <;> first | assumption | exact (Below.refl _ w1).drew | exact Below.alloc (d2T (by assumption)) (Below.size (d2T (by assumption))) _)
      (first
        | (go_at_call 60; have _t := tok1; (with_reducible refine (C2.out _ (d2B hb01 (by assumption))).mono ?_); rintro x w2 ⟨v2, rfl, ht, h⟩; clear tok1 _t; have T2 := Lib.hid ht; have h02 := d2N (w4 := w1) (by assumption) h; obtain ⟨A2, c2, rfl⟩ := tpost_form ht; clear ht)
        | (go_at_call 60; (with_reducible refine (C2.out _ (d2B hb01 (by assumption))).mono ?_); rintro x w3 ⟨v3, rfl, ht, h'⟩; have T3 := Lib.hid ht; have h03 := d2N (w4 := w1) (by assumption) h'; obtain ⟨A3, c3, rfl⟩ := tpost_form ht; clear ht)
        | fail)
    all_goals
      go_wp2_with fail
      go_ret2
      show NewPost _ _ _ _ _ _
      rw [NewPost, NO.out, if_pos rfl]
      have hbF := d2B hb01 (by assumption)
      have E2 := (T2.out.below h').ents.below ((Below.refl _ w3).alloc (Nat.le_refl _) (.cells (dcells (dsk0 es q) (.slice A2 es.length c2) (.slice A3 es.length c3) (.slice none 0 0) (.slice none 0 0)) 91))
      have E3 := T3.out.ents.below ((Below.refl _ w3).alloc (Nat.le_refl _) (.cells (dcells (dsk0 es q) (.slice A2 es.length c2) (.slice A3 es.length c3) (.slice none 0 0) (.slice none 0 0)) 91))
      have hs13 : w.heap.size ≤ w3.heap.size := Nat.le_trans hb01.size h03.size
      exact ⟨w3.heap.size, rfl, ⟨by omega, _, _, _, _, Bk.new w3 91 (dcells (dsk0 es q) (.slice A2 es.length c2) (.slice A3 es.length c3) (.slice none 0 0) (.slice none 0 0)), E2, E3, ChgRow.nil _ _, KeepV.nil _⟩, hs13, hbF⟩

/-! ### small methods -/
set_option maxHeartbeats 1000000 in
theorem dnow_any (base b : Nat) (d : Dsk) (w : World) (h : DiskAt w base b d) (hn : d.now.length ≤ 1048576) (hc : cnt d.now ≤ 1048576) :
    Calls Tryd.prog 30 #[.pointer (some ⟨b, 0, none⟩)] w (DCopPost d.now w) := by
  obtain ⟨_, un, ul, uw, uk, h1, h2, _⟩ := h
  have C1 := Lib.hid (fun w1 (hb : Below w.heap.size w w1) => dcopied_any d.now (.agg #[un]) w1 ⟨un, rfl, h2.below hb⟩ hn hc)
  obtain ⟨A, c, rfl, _⟩ := h2
  have k1 := h1.cell 1
  simp only [dcells, List.getElem?_toArray, List.getElem?_cons_zero, List.getElem?_cons_succ] at k1
  have K0 := Bk.new w 25 #[.slice none 0 0]
  have B0 := (Below.refl w.heap.size w).alloc (Nat.le_refl _) (.cells #[.slice none 0 0] 25)
  have k1' := cell_below B0 k1
  go_enter Tryd.func30, Tryd.ntmps30
  go_wp2_with (go_at_call 60; (with_reducible refine (C1.out _ B0).mono ?_); rintro x w1 ⟨v1, rfl, ht, hb1⟩; have T1 := Lib.hid ht; obtain ⟨A1, c1, rfl⟩ := tpost_form ht; clear ht; have K1 := K0.after hb1; have k2 := K1.cell; have f2 := K1.free)
  refine bodyPost_ret (v := .agg #[.slice A1 d.now.length c1]) (by simp [results, Tryd.results30, go_sem, k2]) rfl ⟨_, rfl, T1.out.set1 K1 _, ?_⟩
  exact (B0.trans (hb1.mono (by simp))).setCell (Nat.le_refl _) _

theorem dcount_any (base b : Nat) (d : Dsk) (w : World) (h : DiskAt w base b d) :
    Calls Tryd.prog 28 #[.pointer (some ⟨b, 0, none⟩)] w fun x w' => x = .returned (.int .i64 d.count) ∧ w' = w := by
  obtain ⟨_, un, ul, uw, uk, h1, _⟩ := h
  have k5 := h1.cell 5
  simp only [dcells, List.getElem?_toArray, List.getElem?_cons_zero, List.getElem?_cons_succ] at k5
  go_enter Tryd.func28, Tryd.ntmps28
  go_wp2_with fail
  go_ret
  exact ⟨rfl, rfl⟩
theorem doff_any (base b : Nat) (d : Dsk) (w : World) (h : DiskAt w base b d) :
    Calls Tryd.prog 36 #[.pointer (some ⟨b, 0, none⟩)] w fun x w' => x = .returned (.bool d.off) ∧ w' = w := by
  obtain ⟨_, un, ul, uw, uk, h1, _⟩ := h
  have k5 := h1.cell 4
  simp only [dcells, List.getElem?_toArray, List.getElem?_cons_zero, List.getElem?_cons_succ] at k5
  go_enter Tryd.func36, Tryd.ntmps36
  go_wp2_with fail
  go_ret
  exact ⟨rfl, rfl⟩
end Go.Proofs.YtpfmenepgejgdaaDoor
