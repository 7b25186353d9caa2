/-
  THE PACKAGE disk: done, and a change with bytes of its own. Own work.
-/
import Derived.Test.YtpfmenepgejgdaaDoorDCop
import Derived.Test.YtpfmenepgejgdaaDoorLaw3
namespace Go.Proofs.YtpfmenepgejgdaaDoor
open Go.RowKit

structure Chg where
  op : Int
  path : ByteArray
  to_ : ByteArray
  b : List UInt8
/-- A change by value. -/
def ChgV (w : World) (v : Value) (c : Chg) : Prop := ∃ u, v = .agg #[.int .i64 c.op, .string c.path, .string c.to_, u] ∧ Byt w u c.b
theorem ChgV.below {w w1 : World} {v : Value} {c : Chg} (h : ChgV w v c) (hb : Below w.heap.size w w1) : ChgV w1 v c := by
  obtain ⟨u, h1, h2⟩ := h
  exact ⟨u, h1, h2.below hb⟩

def doneE (es : List Ent) (c : Chg) : Int × List Ent :=
  if c.op = 1 then putE es c.path c.b else if c.op = 2 then makeE es c.path else if c.op = 3 then removeE es c.path else if c.op = 4 then moveE es c.path c.to_ else (1, es)

set_option maxHeartbeats 1000000 in
theorem done_any (es : List Ent) (c : Chg) (v cv : Value) (m : Int) (w : World) (h : TreeV w v es) (hcv : ChgV w cv c) (hn : es.length ≤ 1000000) (hc : cnt es ≤ 1000000) (hz : ∀ e ∈ es, e.path.size ≤ 1048576) (hp : c.path.size ≤ 1048576) (hq : c.to_.size ≤ 1048576) (hb40 : c.b.length ≤ 40000) (hm : Mx m w) :
    Calls Tryd.prog 62 #[v, cv] w (TPost (doneE es c) w) := by
  have HT := Lib.hid h
  obtain ⟨cu, rfl, hcu⟩ := hcv
  have C1 := Lib.hid (fun w1 (hb : Below w.heap.size w w1) => treePut_any es c.path c.b v cu m w1 (h.below hb) (hcu.below hb) hn hc hb40 hz hp (hm.below hb))
  have C2 := Lib.hid (fun w1 (hb : Below w.heap.size w w1) => treeMake_any es c.path v m w1 (h.below hb) hn hc hz hp (hm.below hb))
  have C3 := Lib.hid (fun w1 (hb : Below w.heap.size w w1) => treeRemove_any es c.path v m w1 (h.below hb) (by omega) (by omega) hz hp (hm.below hb))
  have C4 := Lib.hid (fun w1 (hb : Below w.heap.size w w1) => treeMove_any es c.path c.to_ v m w1 (h.below hb) hn hc hz hp hq (hm.below hb))
  obtain ⟨A, cc, rfl⟩ := tpost_form h
  obtain ⟨A2, c2, rfl, _⟩ := hcu
  clear h hz
  have B0 := (((Below.refl w.heap.size w).alloc (Nat.le_refl _) (.cells #[.slice A es.length cc] 25)).alloc (by simp) (.cells #[.int .i64 c.op, .string c.path, .string c.to_, .slice A2 c.b.length c2] 59)).alloc (by simp; omega) (.cells #[.slice none 0 0] 25)
  have PE : Hid (doneE es c = if c.op = 1 then putE es c.path c.b else if c.op = 2 then makeE es c.path else if c.op = 3 then removeE es c.path else if c.op = 4 then moveE es c.path c.to_ else (1, es)) := (rfl : doneE es c = if c.op = 1 then putE es c.path c.b else if c.op = 2 then makeE es c.path else if c.op = 3 then removeE es c.path else if c.op = 4 then moveE es c.path c.to_ else (1, es))
  by_cases h1 : c.op = 1
  · have PF : Hid (doneE es c = putE es c.path c.b) := PE.out.trans (by rw [if_pos h1])
    obtain ⟨r, hr⟩ : ∃ r, r = putE es c.path c.b := ⟨_, rfl⟩
    rw [← hr] at C1 PF
    rw [h1] at B0 ⊢
    clear h1 hr PE
    go_enter Tryd.func62, Tryd.ntmps62
    go_wp2_with (go_at_call 22; (with_reducible refine (C1.out _ B0).mono ?_); rintro x w1 ⟨v1, rfl, ht, hb1⟩; have T1 := Lib.hid ht; obtain ⟨A1, c1, rfl⟩ := tpost_form ht; clear ht; have K3 := (Bk.new2 w _ _ _ _).after hb1; have k3 := K3.cell; have f3 := K3.free)
    refine bodyPost_ret (v := .tuple #[.agg #[.slice A1 r.2.length c1], .int .i64 r.1]) (by simp [results, Tryd.results62, go_sem, k3]) rfl ⟨_, by rw [PF.out], ?_, ?_⟩
    · rw [PF.out]; exact T1.out.set1 K3 _
    · exact (B0.trans (hb1.mono (by simp; omega))).setCell (Nat.le_add_right _ 2) _
  by_cases h2 : c.op = 2
  · have PF : Hid (doneE es c = makeE es c.path) := PE.out.trans (by rw [if_neg h1, if_pos h2])
    obtain ⟨r, hr⟩ : ∃ r, r = makeE es c.path := ⟨_, rfl⟩
    rw [← hr] at C2 PF
    rw [h2] at B0 ⊢
    clear h1 h2 hr PE
    go_enter Tryd.func62, Tryd.ntmps62
    go_wp2_with (go_at_call 16; (with_reducible refine (C2.out _ B0).mono ?_); rintro x w1 ⟨v1, rfl, ht, hb1⟩; have T1 := Lib.hid ht; obtain ⟨A1, c1, rfl⟩ := tpost_form ht; clear ht; have K3 := (Bk.new2 w _ _ _ _).after hb1; have k3 := K3.cell; have f3 := K3.free)
    refine bodyPost_ret (v := .tuple #[.agg #[.slice A1 r.2.length c1], .int .i64 r.1]) (by simp [results, Tryd.results62, go_sem, k3]) rfl ⟨_, by rw [PF.out], ?_, ?_⟩
    · rw [PF.out]; exact T1.out.set1 K3 _
    · exact (B0.trans (hb1.mono (by simp; omega))).setCell (Nat.le_add_right _ 2) _
  by_cases h3 : c.op = 3
  · have PF : Hid (doneE es c = removeE es c.path) := PE.out.trans (by rw [if_neg h1, if_neg h2, if_pos h3])
    obtain ⟨r, hr⟩ : ∃ r, r = removeE es c.path := ⟨_, rfl⟩
    rw [← hr] at C3 PF
    rw [h3] at B0 ⊢
    clear h1 h2 h3 hr PE
    go_enter Tryd.func62, Tryd.ntmps62
    go_wp2_with (go_at_call 23; (with_reducible refine (C3.out _ B0).mono ?_); rintro x w1 ⟨v1, rfl, ht, hb1⟩; have T1 := Lib.hid ht; obtain ⟨A1, c1, rfl⟩ := tpost_form ht; clear ht; have K3 := (Bk.new2 w _ _ _ _).after hb1; have k3 := K3.cell; have f3 := K3.free)
    refine bodyPost_ret (v := .tuple #[.agg #[.slice A1 r.2.length c1], .int .i64 r.1]) (by simp [results, Tryd.results62, go_sem, k3]) rfl ⟨_, by rw [PF.out], ?_, ?_⟩
    · rw [PF.out]; exact T1.out.set1 K3 _
    · exact (B0.trans (hb1.mono (by simp; omega))).setCell (Nat.le_add_right _ 2) _
  by_cases h4 : c.op = 4
  · have PF : Hid (doneE es c = moveE es c.path c.to_) := PE.out.trans (by rw [if_neg h1, if_neg h2, if_neg h3, if_pos h4])
    obtain ⟨r, hr⟩ : ∃ r, r = moveE es c.path c.to_ := ⟨_, rfl⟩
    rw [← hr] at C4 PF
    rw [h4] at B0 ⊢
    clear h1 h2 h3 h4 hr PE
    go_enter Tryd.func62, Tryd.ntmps62
    go_wp2_with (go_at_call 12; (with_reducible refine (C4.out _ B0).mono ?_); rintro x w1 ⟨v1, rfl, ht, hb1⟩; have T1 := Lib.hid ht; obtain ⟨A1, c1, rfl⟩ := tpost_form ht; clear ht; have K3 := (Bk.new2 w _ _ _ _).after hb1; have k3 := K3.cell; have f3 := K3.free)
    refine bodyPost_ret (v := .tuple #[.agg #[.slice A1 r.2.length c1], .int .i64 r.1]) (by simp [results, Tryd.results62, go_sem, k3]) rfl ⟨_, by rw [PF.out], ?_, ?_⟩
    · rw [PF.out]; exact T1.out.set1 K3 _
    · exact (B0.trans (hb1.mono (by simp; omega))).setCell (Nat.le_add_right _ 2) _
  have PF : Hid (doneE es c = (1, es)) := PE.out.trans (by rw [if_neg h1, if_neg h2, if_neg h3, if_neg h4])
  have b1 : (c.op == 1) = false := beq_eq_false_iff_ne.2 h1
  have b2 : (c.op == 2) = false := beq_eq_false_iff_ne.2 h2
  have b3 : (c.op == 3) = false := beq_eq_false_iff_ne.2 h3
  have b4 : (c.op == 4) = false := beq_eq_false_iff_ne.2 h4
  clear PE h1 h2 h3 h4
  go_enter Tryd.func62, Tryd.ntmps62
  go_wp2_with fail
  refine bodyPost_ret (v := .tuple #[.agg #[.slice A es.length cc], .int .i64 1]) (by simp [results, Tryd.results62, go_sem]) rfl ⟨_, by rw [PF.out], ?_, ?_⟩
  · rw [PF.out]; exact HT.out.below (((Below.refl w.heap.size w).alloc (Nat.le_refl _) _).alloc (by simp) _ |>.alloc (by simp; omega) _)
  · exact ((Below.refl w.heap.size w).alloc (Nat.le_refl _) _).alloc (by simp) _ |>.alloc (by simp; omega) _
end Go.Proofs.YtpfmenepgejgdaaDoor
