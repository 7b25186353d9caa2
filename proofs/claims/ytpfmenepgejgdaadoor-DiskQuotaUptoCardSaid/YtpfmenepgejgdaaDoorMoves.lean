/-
  tallymanlaw8.TreeMoves: it answers true. Own work.
-/
import Derived.Test.YtpfmenepgejgdaaDoorAwake
import Derived.Test.YtpfmenepgejgdaaDoorLaw3
import Derived.Deep.RegionHeld3
namespace Go.Proofs.YtpfmenepgejgdaaDoor
open Go.RowKit

theorem ents_form {w : World} {v : Value} {es : List Ent} (h : Ents w v es) : ∃ A c, v = .slice A es.length c := by
  obtain ⟨A, c, rfl, _⟩ := h
  exact ⟨A, c, rfl⟩

theorem h3B {w w4 W : World} {P1 P2 P3 : Prop} (hb : Below w.heap.size w w4) (h : P1 ∧ P2 ∧ P3 ∧ Below w4.heap.size w4 W) : Below w.heap.size w W := hb.trans (h.2.2.2.mono hb.size)
theorem h3N {w4 W w5 : World} {P1 P2 P3 : Prop} (h : P1 ∧ P2 ∧ P3 ∧ Below w4.heap.size w4 W) (hb : Below W.heap.size W w5) : Below w4.heap.size w4 w5 := h.2.2.2.trans (hb.mono h.2.2.2.size)
theorem h3V {w4 W : World} {v : Value} {es : List Ent} {P1 P2 P3 : Prop} (hv : TreeV w4 v es) (h : P1 ∧ P2 ∧ P3 ∧ Below w4.heap.size w4 W) : TreeV W v es := hv.below h.2.2.2
/-- What ends early. -/
theorem moves_early (es : List Ent) (from_ to_ : ByteArray) (v : Value) (m : Int) (w : World) (h : Ents w v es) (hn : es.length ≤ 1048576) (hc : cnt es ≤ 1048576) (hz : ∀ e ∈ es, e.path.size ≤ 1048576) (hm : Mx m w)
    (hno : ¬ (es.length ≤ 40 ∧ goodT es = true ∧ cnt es ≤ 5000 ∧ from_.size ≤ 100 ∧ to_.size ≤ 100)) :
    Calls Tryd.prog 3 #[v, .string from_, .string to_] w fun x w' => x = .returned (.bool true) ∧ Below w.heap.size w w' := by
  have C0 := Lib.hid (awake_any m w hm)
  obtain ⟨A, c, hv⟩ := ents_form h
  have C1 := Lib.hid (fun w1 (hb : Below w.heap.size w w1) => treeGood_any es (.agg #[v]) m w1 ⟨v, rfl, h.below hb⟩ (by omega) (by omega) hz (hm.below hb))
  have C2 := Lib.hid (fun w1 (hb : Below w.heap.size w w1) => treeBytes_any es (.agg #[v]) m w1 ⟨v, rfl, h.below hb⟩ (by omega) (by omega) hz (hm.below hb))
  subst hv
  clear h hz
  by_cases h1 : es.length ≤ 40
  · cases hg : goodT es with
    | false =>
      have G := Lib.hid hg
      clear hno hg
      go_enter Tryd.func3, Tryd.ntmps3
      go_wp2_with (first
        | (go_at_call 8; (with_reducible refine C0.out.mono ?_); rintro x w1 ⟨rfl, hb1⟩; have hbA := hb1.alloc hb1.size (.cells #[.slice A es.length c] 25))
        | (go_at_call 9; (with_reducible refine (C1.out _ hbA).mono ?_); rintro x w2 ⟨rfl, hb2⟩; rw [G.out]; have hbB := hbA.trans (hb2.mono hbA.size))
        | fail)
      go_ret
      exact ⟨rfl, hbB⟩
    | true =>
      have G := Lib.hid hg
      by_cases h2 : cnt es ≤ 5000
      · by_cases h3 : from_.size ≤ 100
        · have h4 : ¬ to_.size ≤ 100 := fun h4 => hno ⟨h1, hg, h2, h3, h4⟩
          clear hno hg
          go_enter Tryd.func3, Tryd.ntmps3
          go_wp2_with (first
            | (go_at_call 8; (with_reducible refine C0.out.mono ?_); rintro x w1 ⟨rfl, hb1⟩; have hbA := hb1.alloc hb1.size (.cells #[.slice A es.length c] 25); have K1 := Bk.new w1 25 #[.slice A es.length c])
            | (go_at_call 9; (with_reducible refine (C1.out _ hbA).mono ?_); rintro x w2 ⟨rfl, hb2⟩; rw [G.out]; have K2 := K1.after hb2; have k2 := K2.cell; have hbB := hbA.trans (hb2.mono hbA.size))
            | (go_at_call 10; (with_reducible refine (C2.out _ hbB).mono ?_); rintro x w3 ⟨rfl, hb3⟩; rw [G.out, if_pos rfl]; have hbC := hbB.trans (hb3.mono hbB.size))
            | fail)
          go_ret
          exact ⟨rfl, hbC⟩
        · clear hno hg
          go_enter Tryd.func3, Tryd.ntmps3
          go_wp2_with (first
            | (go_at_call 8; (with_reducible refine C0.out.mono ?_); rintro x w1 ⟨rfl, hb1⟩; have hbA := hb1.alloc hb1.size (.cells #[.slice A es.length c] 25); have K1 := Bk.new w1 25 #[.slice A es.length c])
            | (go_at_call 9; (with_reducible refine (C1.out _ hbA).mono ?_); rintro x w2 ⟨rfl, hb2⟩; rw [G.out]; have K2 := K1.after hb2; have k2 := K2.cell; have hbB := hbA.trans (hb2.mono hbA.size))
            | (go_at_call 10; (with_reducible refine (C2.out _ hbB).mono ?_); rintro x w3 ⟨rfl, hb3⟩; rw [G.out, if_pos rfl]; have hbC := hbB.trans (hb3.mono hbB.size))
            | fail)
          go_ret
          exact ⟨rfl, hbC⟩
      · clear hno hg
        go_enter Tryd.func3, Tryd.ntmps3
        go_wp2_with (first
          | (go_at_call 8; (with_reducible refine C0.out.mono ?_); rintro x w1 ⟨rfl, hb1⟩; have hbA := hb1.alloc hb1.size (.cells #[.slice A es.length c] 25); have K1 := Bk.new w1 25 #[.slice A es.length c])
          | (go_at_call 9; (with_reducible refine (C1.out _ hbA).mono ?_); rintro x w2 ⟨rfl, hb2⟩; rw [G.out]; have K2 := K1.after hb2; have k2 := K2.cell; have hbB := hbA.trans (hb2.mono hbA.size))
          | (go_at_call 10; (with_reducible refine (C2.out _ hbB).mono ?_); rintro x w3 ⟨rfl, hb3⟩; rw [G.out, if_pos rfl]; have hbC := hbB.trans (hb3.mono hbB.size))
          | fail)
        go_ret
        exact ⟨rfl, hbC⟩
  · clear hno
    go_enter Tryd.func3, Tryd.ntmps3
    go_wp2_with (first
      | (go_at_call 8; (with_reducible refine C0.out.mono ?_); rintro x w1 ⟨rfl, hb1⟩; have hbA := hb1.alloc hb1.size (.cells #[.slice A es.length c] 25))
      | fail)
    go_ret
    exact ⟨rfl, hbA⟩
theorem moves_err (es : List Ent) (from_ to_ : ByteArray) (v : Value) (m : Int) (w : World) (h : Ents w v es) (hn : es.length ≤ 1000000) (hc : cnt es ≤ 1000000) (hz : ∀ e ∈ es, e.path.size ≤ 1048576) (hm : Mx m w)
    (h1 : es.length ≤ 40) (hg : goodT es = true) (h2 : cnt es ≤ 5000) (h3 : from_.size ≤ 100) (h4 : to_.size ≤ 100) (he : (moveE es from_ to_).1 ≠ 0) :
    Calls Tryd.prog 3 #[v, .string from_, .string to_] w fun x w' => x = .returned (.bool true) ∧ Below w.heap.size w w' := by
  have C0 := Lib.hid (awake_any m w hm)
  obtain ⟨A, c, hv⟩ := ents_form h
  have C1 := Lib.hid (fun w1 (hb : Below w.heap.size w w1) => treeGood_any es (.agg #[v]) m w1 ⟨v, rfl, h.below hb⟩ (by omega) (by omega) hz (hm.below hb))
  have C2 := Lib.hid (fun w1 (hb : Below w.heap.size w w1) => treeBytes_any es (.agg #[v]) m w1 ⟨v, rfl, h.below hb⟩ (by omega) (by omega) hz (hm.below hb))
  have C3 := Lib.hid (fun w1 (hb : Below w.heap.size w w1) => treeFind_any es (.agg #[v]) to_ m w1 ⟨v, rfl, h.below hb⟩ (by omega) (by omega) hz (by omega) (hm.below hb))
  have C4 := Lib.hid (fun w1 (hb : Below w.heap.size w w1) => treeMove_any es from_ to_ (.agg #[v]) m w1 ⟨v, rfl, h.below hb⟩ (by omega) (by omega) hz (by omega) (by omega) (hm.below hb))
  have HT := Lib.hid (fun w1 (hb : Below w.heap.size w w1) => (⟨v, rfl, h.below hb⟩ : TreeV w1 (.agg #[v]) es))
  have X : Hid ((moveE es from_ to_).2 = es) := (move_err es from_ to_ he : (moveE es from_ to_).2 = es)
  have C5 := Lib.hid (fun v' w1 (hb : Below w.heap.size w w1) (hu : TreeV w1 v' (moveE es from_ to_).2) => treeSame_any es es v' (.agg #[v]) m w1 (by rw [← X.out]; exact hu) ⟨v, rfl, h.below hb⟩ (by omega) (by omega) (by omega) (by omega) hz hz (hm.below hb))
  rw [sameT_self hg] at C5
  have G := Lib.hid hg
  obtain ⟨r, hr⟩ : ∃ r, r = moveE es from_ to_ := ⟨_, rfl⟩
  rw [← hr] at C4 X he C5
  obtain ⟨q, hq⟩ : ∃ q, q = findE es to_ := ⟨_, rfl⟩
  have Q := Lib.hid hq.symm
  subst hv
  clear h hz hg hr hq
  go_enter Tryd.func3, Tryd.ntmps3
  go_wp2_with
      (first
        | (go_at_call 8; (with_reducible refine C0.out.mono ?_); rintro x w1 ⟨rfl, hb1⟩; have hbA := hb1.alloc hb1.size (.cells #[.slice A es.length c] 25); have K1 := Bk.new w1 25 #[.slice A es.length c])
        | (go_at_call 9; (with_reducible refine (C1.out _ hbA).mono ?_); rintro x w2 ⟨rfl, hb2⟩; rw [G.out]; have K2 := K1.after hb2; have k2 := K2.cell; have hbB := hbA.trans (hb2.mono hbA.size))
        | (go_at_call 10; (with_reducible refine (C2.out _ hbB).mono ?_); rintro x w3 ⟨rfl, hb3⟩; rw [G.out, if_pos rfl]; clear k2; have K3 := K2.after hb3; have k3 := K3.cell; have hbC := hbB.trans (hb3.mono hbB.size))
        | (go_at_call 11; (with_reducible refine (C3.out _ hbC).mono ?_); rintro x w4 ⟨v4, rfl, ⟨u4, rfl, A4, c4, rfl, _⟩, hb4⟩; rw [Q.out]; clear k3; have K4 := (K3.after hb4).alloc (.cells #[.string (findV es to_).path, .bool (findV es to_).dir, .slice A4 (findV es to_).b.length c4] 30); have k4 := K4.cell; have hbD := (hbC.trans (hb4.mono hbC.size)).alloc (Nat.le_trans hbC.size hb4.size) (.cells #[.string (findV es to_).path, .bool (findV es to_).dir, .slice A4 (findV es to_).b.length c4] 30))
        | (go_at_call 12; (with_reducible refine (C4.out _ hbD).mono ?_); rintro x w5 ⟨v5, rfl, ht5, hb5⟩; have T5 := Lib.hid ht5; obtain ⟨A5, c5, rfl⟩ := tpost_form ht5; clear ht5 k4; have hbE := hbD.trans (hb5.mono hbD.size); have K5 := (K4.after hb5).alloc (.cells #[.slice A5 r.2.length c5] 25); have k5 := K5.cell; have J5 := Bk.new w5 25 #[.slice A5 r.2.length c5]; have j5 := J5.cell; have hbF := hbE.alloc hbE.size (.cells #[.slice A5 r.2.length c5] 25))
        | (go_at_call 13; (with_reducible refine (C5.out _ _ hbF (T5.out.below ((Below.refl _ w5).alloc (Nat.le_refl _) _))).mono ?_); rintro x w6 ⟨rfl, hb6⟩; have hbG := hbF.trans (hb6.mono hbF.size))
        | fail)
  go_ret
  exact ⟨rfl, hbG⟩
theorem jo_len : ∀ (l : List Pl.Bs), (∀ n ∈ l, n.length ≤ 16) → (Pl.jo l).length ≤ l.length * 17
  | [], _ => by simp [Pl.jo]
  | [a], h => by have := h a List.mem_cons_self; simp only [Pl.jo, List.length_singleton]; omega
  | a :: b :: r, h => by
    have h1 := h a List.mem_cons_self
    have h2 := jo_len (b :: r) (fun n hn => h n (List.mem_cons_of_mem _ hn))
    simp only [Pl.jo, List.length_append, List.length_cons] at h2 ⊢
    omega
theorem gp_size {p : ByteArray} (h : gpB p = true) : p.size ≤ 68 := by
  have h0 : Pl.gp (bd p) = true := h
  have hn := Pl.gp_names h0
  have hl : (Pl.sp (bd p)).length ≤ 4 := by
    unfold Pl.gp at h0
    rw [Bool.and_eq_true] at h0
    exact of_decide_eq_true h0.1
  have h1 := jo_len (Pl.sp (bd p)) (fun n hm => by
    have h2 := hn n hm
    simp only [Pl.gn, Bool.and_eq_true, decide_eq_true_eq] at h2
    exact h2.1.1.1.2)
  rw [Pl.jo_sp] at h1
  have h3 : (bd p).length = p.size := Array.length_toList
  omega
/-- Sizes of paths in a tree that may be. -/
theorem good_sizes {es : List Ent} (h : goodT es = true) : ∀ e ∈ es, e.path.size ≤ 1048576 := by
  intro e he
  have h1 : gpB e.path = true := ((goodT_eg.1 h).2.2.2 e he).1
  have h2 := gp_size h1
  omega
theorem moves_there (es : List Ent) (from_ to_ : ByteArray) (v : Value) (m : Int) (w : World) (h : Ents w v es) (hn : es.length ≤ 1000000) (hc : cnt es ≤ 1000000) (hz : ∀ e ∈ es, e.path.size ≤ 1048576) (hm : Mx m w)
    (h1 : es.length ≤ 40) (hg : goodT es = true) (h2 : cnt es ≤ 5000) (h3 : from_.size ≤ 100) (h4 : to_.size ≤ 100) (he : (moveE es from_ to_).1 = 0) (hq5 : findE es to_ ≠ 5) :
    Calls Tryd.prog 3 #[v, .string from_, .string to_] w fun x w' => x = .returned (.bool true) ∧ Below w.heap.size w w' := by
  have C0 := Lib.hid (awake_any m w hm)
  obtain ⟨A, c, hv⟩ := ents_form h
  have C1 := Lib.hid (fun w1 (hb : Below w.heap.size w w1) => treeGood_any es (.agg #[v]) m w1 ⟨v, rfl, h.below hb⟩ (by omega) (by omega) hz (hm.below hb))
  have C2 := Lib.hid (fun w1 (hb : Below w.heap.size w w1) => treeBytes_any es (.agg #[v]) m w1 ⟨v, rfl, h.below hb⟩ (by omega) (by omega) hz (hm.below hb))
  have C3 := Lib.hid (fun w1 (hb : Below w.heap.size w w1) => treeFind_any es (.agg #[v]) to_ m w1 ⟨v, rfl, h.below hb⟩ (by omega) (by omega) hz (by omega) (hm.below hb))
  have C4 := Lib.hid (fun w1 (hb : Below w.heap.size w w1) => treeMove_any es from_ to_ (.agg #[v]) m w1 ⟨v, rfl, h.below hb⟩ (by omega) (by omega) hz (by omega) (by omega) (hm.below hb))
  have HT := Lib.hid (fun w1 (hb : Below w.heap.size w w1) => (⟨v, rfl, h.below hb⟩ : TreeV w1 (.agg #[v]) es))
  have HG' := move_good he
  have C5 := Lib.hid (fun v' w1 (hb : Below w.heap.size w w1) (hu : TreeV w1 v' (moveE es from_ to_).2) => treeGood_any (moveE es from_ to_).2 v' m w1 hu (by have := (goodT_eg.1 HG').1; omega) (by have := (goodT_eg.1 HG').2.1; omega) (good_sizes HG') (hm.below hb))
  have G := Lib.hid hg
  obtain ⟨r, hr⟩ : ∃ r, r = moveE es from_ to_ := ⟨_, rfl⟩
  rw [← hr] at C4 he C5 HG'
  have R0 := Lib.hid he
  have GR := Lib.hid HG'
  obtain ⟨q, hq⟩ : ∃ q, q = findE es to_ := ⟨_, rfl⟩
  rw [← hq] at hq5
  have Q := Lib.hid hq.symm
  subst hv
  clear h hz hg hr hq he HG'
  go_enter Tryd.func3, Tryd.ntmps3
  go_wp2_with
      (first
        | (go_at_call 8; (with_reducible refine C0.out.mono ?_); rintro x w1 ⟨rfl, hb1⟩; have hbA := hb1.alloc hb1.size (.cells #[.slice A es.length c] 25); have K1 := Bk.new w1 25 #[.slice A es.length c])
        | (go_at_call 9; (with_reducible refine (C1.out _ hbA).mono ?_); rintro x w2 ⟨rfl, hb2⟩; rw [G.out]; have K2 := K1.after hb2; have k2 := K2.cell; have hbB := hbA.trans (hb2.mono hbA.size))
        | (go_at_call 10; (with_reducible refine (C2.out _ hbB).mono ?_); rintro x w3 ⟨rfl, hb3⟩; rw [G.out, if_pos rfl]; clear k2; have K3 := K2.after hb3; have k3 := K3.cell; have hbC := hbB.trans (hb3.mono hbB.size))
        | (go_at_call 11; (with_reducible refine (C3.out _ hbC).mono ?_); rintro x w4 ⟨v4, rfl, ⟨u4, rfl, A4, c4, rfl, _⟩, hb4⟩; rw [Q.out]; clear k3; have K4 := (K3.after hb4).alloc (.cells #[.string (findV es to_).path, .bool (findV es to_).dir, .slice A4 (findV es to_).b.length c4] 30); have k4 := K4.cell; have hbD := (hbC.trans (hb4.mono hbC.size)).alloc (Nat.le_trans hbC.size hb4.size) (.cells #[.string (findV es to_).path, .bool (findV es to_).dir, .slice A4 (findV es to_).b.length c4] 30))
        | (go_at_call 12; (with_reducible refine (C4.out _ hbD).mono ?_); rintro x w5 ⟨v5, rfl, ht5, hb5⟩; rw [R0.out]; have T5 := Lib.hid ht5; obtain ⟨A5, c5, rfl⟩ := tpost_form ht5; clear ht5 k4; have hbE := hbD.trans (hb5.mono hbD.size); have K5 := (K4.after hb5).alloc (.cells #[.slice A5 r.2.length c5] 25); have k5 := K5.cell; have J5 := Bk.new w5 25 #[.slice A5 r.2.length c5]; have j5 := J5.cell; have hbF := hbE.alloc hbE.size (.cells #[.slice A5 r.2.length c5] 25); have T6 := Lib.hid (T5.out.below ((Below.refl _ w5).alloc (Nat.le_refl _) (.cells #[.slice A5 r.2.length c5] 25))))
        | (go_at_call 9; (with_reducible refine (C5.out _ _ hbF T6.out).mono ?_); rintro x w6 ⟨rfl, hb6⟩; rw [GR.out]; have hbG := hbF.trans (hb6.mono hbF.size))
        | fail)
  go_ret
  exact ⟨rfl, hbG⟩
theorem moves_back (es : List Ent) (from_ to_ : ByteArray) (v : Value) (m : Int) (w : World) (h : Ents w v es) (hn : es.length ≤ 1000000) (hc : cnt es ≤ 1000000) (hz : ∀ e ∈ es, e.path.size ≤ 1048576) (hm : Mx m w)
    (h1 : es.length ≤ 40) (hg : goodT es = true) (h2 : cnt es ≤ 5000) (h3 : from_.size ≤ 100) (h4 : to_.size ≤ 100) (he : (moveE es from_ to_).1 = 0) (hq5 : findE es to_ = 5) :
    Calls Tryd.prog 3 #[v, .string from_, .string to_] w fun x w' => x = .returned (.bool true) ∧ Below w.heap.size w w' := by
  have C0 := Lib.hid (awake_any m w hm)
  obtain ⟨A, c, hv⟩ := ents_form h
  have C1 := Lib.hid (fun w1 (hb : Below w.heap.size w w1) => treeGood_any es (.agg #[v]) m w1 ⟨v, rfl, h.below hb⟩ (by omega) (by omega) hz (hm.below hb))
  have C2 := Lib.hid (fun w1 (hb : Below w.heap.size w w1) => treeBytes_any es (.agg #[v]) m w1 ⟨v, rfl, h.below hb⟩ (by omega) (by omega) hz (hm.below hb))
  have C3 := Lib.hid (fun w1 (hb : Below w.heap.size w w1) => treeFind_any es (.agg #[v]) to_ m w1 ⟨v, rfl, h.below hb⟩ (by omega) (by omega) hz (by omega) (hm.below hb))
  have C4 := Lib.hid (fun w1 (hb : Below w.heap.size w w1) => treeMove_any es from_ to_ (.agg #[v]) m w1 ⟨v, rfl, h.below hb⟩ (by omega) (by omega) hz (by omega) (by omega) (hm.below hb))
  have HT := Lib.hid (fun w1 (hb : Below w.heap.size w w1) => (⟨v, rfl, h.below hb⟩ : TreeV w1 (.agg #[v]) es))
  have HG' := move_good he
  obtain ⟨hmb, hcn, hln⟩ := move_back he hq5
  have C5 := Lib.hid (fun v' w1 (hb : Below w.heap.size w w1) (hu : TreeV w1 v' (moveE es from_ to_).2) => treeMove_any (moveE es from_ to_).2 to_ from_ v' m w1 hu (by have := (goodT_eg.1 HG').1; omega) (by have := (goodT_eg.1 HG').2.1; omega) (good_sizes HG') (by omega) (by omega) (hm.below hb))
  rw [hmb] at C5
  have C6 := Lib.hid (fun v' w1 (hb : Below w.heap.size w w1) (hu : TreeV w1 v' es) => treeSame_any es es v' (.agg #[v]) m w1 hu ⟨v, rfl, h.below hb⟩ (by omega) (by omega) (by omega) (by omega) hz hz (hm.below hb))
  rw [sameT_self hg] at C6
  have C7 := Lib.hid (fun v' w1 (hb : Below w.heap.size w w1) (hu : TreeV w1 v' (moveE es from_ to_).2) => treeBytes_any (moveE es from_ to_).2 v' m w1 hu (by have := (goodT_eg.1 HG').1; omega) (by have := (goodT_eg.1 HG').2.1; omega) (good_sizes HG') (hm.below hb))
  rw [HG', if_pos rfl, hcn] at C7
  have G := Lib.hid hg
  obtain ⟨r, hr⟩ : ∃ r, r = moveE es from_ to_ := ⟨_, rfl⟩
  rw [← hr] at C4 he C5 C7 hln
  have R0 := Lib.hid he
  have LN := Lib.hid hln
  obtain ⟨q, hq⟩ : ∃ q, q = findE es to_ := ⟨_, rfl⟩
  have Q : Hid (findE es to_ = 5) := hq5
  subst hv
  clear h hz hg hr hq he HG' hmb hcn hln hq5 q
  go_enter Tryd.func3, Tryd.ntmps3
  go_upto_region 13 with
      (first
        | (go_at_call 8; (with_reducible refine C0.out.mono ?_); rintro x w1 ⟨rfl, hb1⟩; have hbA := hb1.alloc hb1.size (.cells #[.slice A es.length c] 25); have K1 := Bk.new w1 25 #[.slice A es.length c])
        | (go_at_call 9; (with_reducible refine (C1.out _ hbA).mono ?_); rintro x w2 ⟨rfl, hb2⟩; rw [G.out]; have K2 := K1.after hb2; have k2 := K2.cell; have hbB := hbA.trans (hb2.mono hbA.size))
        | (go_at_call 10; (with_reducible refine (C2.out _ hbB).mono ?_); rintro x w3 ⟨rfl, hb3⟩; rw [G.out, if_pos rfl]; clear k2; have K3 := K2.after hb3; have k3 := K3.cell; have hbC := hbB.trans (hb3.mono hbB.size))
        | (go_at_call 11; (with_reducible refine (C3.out _ hbC).mono ?_); rintro x w4 ⟨v4, rfl, ⟨u4, rfl, A4, c4, rfl, _⟩, hb4⟩; rw [Q.out]; clear k3; have K4 := (K3.after hb4).alloc (.cells #[.string (findV es to_).path, .bool (findV es to_).dir, .slice A4 (findV es to_).b.length c4] 30); have k4 := K4.cell; have hbD := (hbC.trans (hb4.mono hbC.size)).alloc (Nat.le_trans hbC.size hb4.size) (.cells #[.string (findV es to_).path, .bool (findV es to_).dir, .slice A4 (findV es to_).b.length c4] 30))
        | (go_at_call 12; (with_reducible refine (C4.out _ hbD).mono ?_); rintro x w5 ⟨v5, rfl, ht5, hb5⟩; rw [R0.out]; have T5 := Lib.hid ht5; obtain ⟨A5, c5, hv5⟩ := tpost_form ht5; rw [LN.out] at hv5; subst hv5; clear ht5 k4; have hbE := hbD.trans (hb5.mono hbD.size); have K5 := (K4.after hb5).alloc (.cells #[.slice A5 es.length c5] 25); have k5 := K5.cell; have J5 := Bk.new w5 25 #[.slice A5 es.length c5]; have j5 := J5.cell; have hbF := hbE.alloc hbE.size (.cells #[.slice A5 es.length c5] 25); have T6 := Lib.hid (T5.out.below ((Below.refl _ w5).alloc (Nat.le_refl _) (.cells #[.slice A5 es.length c5] 25))))
        | (go_at_call 12; (with_reducible refine (C5.out _ _ hbF T6.out).mono ?_); rintro x w6 ⟨v6, rfl, ht6, hb6⟩; have T7 := Lib.hid ht6; obtain ⟨A6, c6, rfl⟩ := tpost_form ht6; clear ht6 k5 j5; have hbG := hbF.trans (hb6.mono hbF.size))
        | fail)
  clear K1 K2 K3 K4 hb1 hb2 hb3 hb4 hb5 hbA hbB hbC hbD hbE
  have q1 := (((Bk.new w6 25 #[.slice A6 es.length c6])).cell) 0
  have q2 := ((K5.after hb6).alloc (.cells #[.slice A6 es.length c6] 25)).cell 0
  have q3 := ((J5.after hb6).alloc (.cells #[.slice A6 es.length c6] 25)).cell 0
  have hbH := hbG.alloc hbG.size (.cells #[.slice A6 es.length c6] 25)
  have T8 := Lib.hid ((T6.out.below hb6).below ((Below.refl _ w6).alloc (Nat.le_refl _) (.cells #[.slice A6 es.length c6] 25)))
  have T9 := Lib.hid (T7.out.below ((Below.refl _ w6).alloc (Nat.le_refl _) (.cells #[.slice A6 es.length c6] 25)))
  simp only [List.getElem?_toArray, List.getElem?_cons_zero] at q1 q2 q3
  clear K5 J5 hb6 hbF hbG T5 T6 T7
  obtain ⟨W, hW⟩ : ∃ W, W = w6.alloc (.cells #[.slice A6 es.length c6] 25) := ⟨_, rfl⟩
  rw [← hW] at hbH T8 T9 q1 q2 q3 ⊢
  clear hW
  go_region_held3 (fun w' => w'.cell? ⟨w6.heap.size, 0, none⟩ = some (.slice A6 es.length c6) ∧ w'.cell? ⟨w1.heap.size, 0, none⟩ = some (.slice A es.length c) ∧ w'.cell? ⟨w5.heap.size, 0, none⟩ = some (.slice A5 es.length c5) ∧ Below W.heap.size W w')
    (refine ⟨cell_below (w := W) ?_ q1, cell_below (w := W) ?_ q2, cell_below (w := W) ?_ q3, ?_⟩ <;> first | assumption | exact (Below.refl _ W).drew)
    (first
      | (go_at_call 13; (with_reducible refine (C6.out _ _ (h3B hbH (by assumption)) (h3V T9.out (by assumption))).mono ?_); rintro x w7 ⟨rfl, hb7⟩; have hb47 := h3N (w4 := W) (by assumption) hb7)
      | (go_at_call 10; (with_reducible refine (C7.out _ _ (h3B hbH (by assumption)) (h3V T8.out (by assumption))).mono ?_); rintro x w7 ⟨rfl, hb7⟩; have hb47 := h3N (w4 := W) (by assumption) hb7)
      | (go_at_call 10; (with_reducible refine (C2.out _ (h3B hbH (by assumption))).mono ?_); rintro x w7 ⟨rfl, hb7⟩; rw [G.out, if_pos rfl]; have hb47 := h3N (w4 := W) (by assumption) hb7)
      | fail)
  all_goals
    go_wp2_with fail
    go_ret
    exact ⟨rfl, h3B hbH (by assumption)⟩
/-- It answers true. -/
theorem moves_any (es : List Ent) (from_ to_ : ByteArray) (v : Value) (m : Int) (w : World) (h : Ents w v es) (hn : es.length ≤ 1048576) (hc : cnt es ≤ 1048576) (hz : ∀ e ∈ es, e.path.size ≤ 1048576) (hm : Mx m w) :
    Calls Tryd.prog 3 #[v, .string from_, .string to_] w fun x w' => x = .returned (.bool true) ∧ Below w.heap.size w w' := by
  by_cases hno : es.length ≤ 40 ∧ goodT es = true ∧ cnt es ≤ 5000 ∧ from_.size ≤ 100 ∧ to_.size ≤ 100
  · obtain ⟨h1, hg, h2, h3, h4⟩ := hno
    by_cases he : (moveE es from_ to_).1 = 0
    · by_cases hq : findE es to_ = 5
      · exact moves_back es from_ to_ v m w h (by omega) (by omega) hz hm h1 hg h2 h3 h4 he hq
      · exact moves_there es from_ to_ v m w h (by omega) (by omega) hz hm h1 hg h2 h3 h4 he hq
    · exact moves_err es from_ to_ v m w h (by omega) (by omega) hz hm h1 hg h2 h3 h4 he
  · exact moves_early es from_ to_ v m w h hn hc hz hm hno
end Go.Proofs.YtpfmenepgejgdaaDoor
