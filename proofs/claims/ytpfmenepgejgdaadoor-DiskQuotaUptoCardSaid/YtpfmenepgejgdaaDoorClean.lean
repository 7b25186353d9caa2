/-
  tree.Clean. Own work.
-/
import Derived.Test.YtpfmenepgejgdaaDoorDelF
import Derived.Test.YtpfmenepgejgdaaDoorPut
namespace Go.Proofs.YtpfmenepgejgdaaDoor
open Go.RowKit

def cleanE (es : List Ent) : List Ent := if goodT es then flt es else es
def CleanPost (es : List Ent) (w : World) (x : Ending) (w' : World) : Prop := ∃ v', x = .returned v' ∧ TreeV w' v' (cleanE es) ∧ Below w.heap.size w w'

set_option maxHeartbeats 1000000 in
theorem treeClean_any (es : List Ent) (v : Value) (m : Int) (w : World) (h : TreeV w v es) (hn : es.length ≤ 1048576) (hc : cnt es ≤ 1048576) (hz : ∀ e ∈ es, e.path.size ≤ 1048576) (hm : Mx m w) :
    Calls Tryd.prog 20 #[v] w (CleanPost es w) := by
  have HT := Lib.hid h
  have C1 := Lib.hid (fun w1 (hb : Below w.heap.size w w1) => treeGood_any es v m w1 (h.below hb) hn hc hz (hm.below hb))
  have C2 := Lib.hid (fun w1 (hb : Below w.heap.size w w1) => copied_any es v w1 (h.below hb) hn hc)
  have C3 := Lib.hid (fun base u w1 (hr : RowE w1 base u es) (hb : Below w.heap.size w w1) h1 h2 => deleteF_any base es u m w1 hr hn hz (hm.below hb) h1 h2)
  obtain ⟨A, c, rfl⟩ := tpost_form h
  clear h hz
  have hmw : 0 < w.heap.size := World.block_lt_of_cell? w _ hm
  have B0 := ((Below.refl w.heap.size w).alloc (Nat.le_refl _) (.cells #[.slice A es.length c] 25)).alloc (by simp) (.cells #[.slice none 0 0] 25)
  cases hg : goodT es with
  | false =>
    have PF : Hid (cleanE es = es) := by
      have : cleanE es = es := by rw [cleanE, hg]; rfl
      exact this
    have G := Lib.hid hg
    clear hg
    go_enter Tryd.func20, Tryd.ntmps20
    go_wp2_with (go_at_call 9; (with_reducible refine (C1.out _ (((Below.refl _ _).alloc (Nat.le_refl _) _).alloc (by simp) _)).mono ?_); rintro x w1 ⟨rfl, hb1⟩; rw [G.out]; have k1 := (((Bk.new w _ _).alloc _).after hb1).cell; have K2 := (Bk.new1 w _ _ _).after hb1; have k2 := K2.cell; have f2 := K2.free)
    have hb01 := B0.trans (hb1.mono (by simp; omega))
    refine bodyPost_ret (v := .agg #[.slice A es.length c]) (by simp [results, Tryd.results20, go_sem, k2]) rfl ⟨_, rfl, ?_, ?_⟩
    · rw [PF.out]; exact (HT.out.below hb01).set1 K2 _
    · exact hb01.setCell (Nat.le_add_right _ 1) _
  | true =>
    have PF : Hid (cleanE es = flt es) := by
      have : cleanE es = flt es := by rw [cleanE, hg]; rfl
      exact this
    have G := Lib.hid hg
    clear hg
    go_enter Tryd.func20, Tryd.ntmps20
    go_wp2_with (first
      | (go_at_call 9; (with_reducible refine (C1.out _ (((Below.refl _ _).alloc (Nat.le_refl _) _).alloc (by simp) _)).mono ?_); rintro x w1 ⟨rfl, hb1⟩; rw [G.out]; have K1 := ((Bk.new w _ _).alloc _).after hb1; have k1 := K1.cell; have K2 := (Bk.new1 w _ _ _).after hb1; have hb01 := B0.trans (hb1.mono (by simp; omega)))
      | (go_at_call 55; (with_reducible refine (C2.out _ hb01).mono ?_); rintro x w2 ⟨u2, rfl, hr2, hb2⟩; have HR2 := Lib.hid hr2; obtain ⟨A2, c2, rfl⟩ := ents_form2 hr2.ents; clear hr2 k1; have hb02 := hb01.trans (hb2.mono hb01.size); have hbA := hb02.alloc hb02.size (.cells #[.slice A2 es.length c2] 25); have L2 := (K2.after hb2).alloc (.cells #[.slice A2 es.length c2] 25); have K3 := Bk.new w2 25 #[.slice A2 es.length c2]; have k3 := K3.cell; have HR3 : Hid (RowE (w2.alloc (.cells #[.slice A2 es.length c2] 25)) w1.heap.size (.slice A2 es.length c2) es) := HR2.out.below ((Below.refl _ w2).alloc (Nat.le_refl _) _))
      | (go_at_call 56; (with_reducible refine (C3.out _ _ _ HR3.out hbA ?_ ?_).mono ?_); exact Nat.le_trans hb2.size (by simp); exact Nat.lt_of_lt_of_le hmw hb01.size; rintro x w3 ⟨v3, rfl, hr3, hb3, hg3⟩; have HR4 := Lib.hid hr3; obtain ⟨A3, c3, rfl⟩ := ents_form2 hr3.ents; have hne : (Value.slice A2 es.length c2).ownBlock ≠ some w2.heap.size := HR2.out.ne; clear k3; have K4 := K3.grown hg3 (fun e => hne e.symm); have k4 := K4.cell; have f4 := K4.free; have L3 := L2.grown hg3 (fun e => by have := HR2.out.ge _ e.symm; have := hb1.size; simp at this; omega); have hlt2 : w.heap.size + 1 < w2.heap.size := (by have h1 := hb1.size; have h2 := hb2.size; simp at h1; omega); have L4 := L3.far (p := ⟨w2.heap.size, 0, none⟩) (by simp; omega) (.slice A3 (flt es).length c3); have l4 := L4.cell; have m4 := L4.free; clear hr3)
      | fail)
    have hb03 : Below w.heap.size w w3 := hbA.trans (hb3.mono hb01.size)
    refine bodyPost_ret (v := .agg #[.slice A3 (flt es).length c3]) (by simp [results, Tryd.results20, go_sem, l4]) rfl ⟨_, rfl, ?_, ?_⟩
    · rw [PF.out]
      have h1 : TreeV w3 (.agg #[.slice A3 (flt es).length c3]) (flt es) := ⟨_, rfl, HR4.out.ents⟩
      exact (h1.set1 K4 _).set1 L4 _
    · exact (hb03.setCell (Nat.le_trans hb01.size hb2.size) _).setCell (Nat.le_add_right _ 1) _
end Go.Proofs.YtpfmenepgejgdaaDoor
