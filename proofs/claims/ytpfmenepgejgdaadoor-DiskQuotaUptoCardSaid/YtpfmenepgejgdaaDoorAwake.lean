/-
  tallymanlaw8.awake. Own work.
-/
import Derived.Test.YtpfmenepgejgdaaDoorMove2
import Derived.Lib.SmallJoins
import Derived.Lib.SlBytesConst
namespace Go.Proofs.YtpfmenepgejgdaaDoor
open Go.RowKit

def pA : ByteArray := ⟨#[97]⟩
def pAB : ByteArray := ⟨#[97, 47, 98]⟩
def ta : List Ent := [⟨pA, true, []⟩]
def tab : List Ent := [⟨pA, true, []⟩, ⟨pAB, false, [120]⟩]
theorem make_a : makeE [] pA = (0, ta) := by kernel_rfl
theorem put_ab : putE ta pAB [120] = (0, tab) := by kernel_rfl
theorem good_tab : goodT tab = true := by kernel_rfl

theorem TreeV.nil (w : World) : TreeV w (.agg #[.slice none 0 0]) [] := ⟨_, rfl, none, 0, rfl, Nat.le_refl _, fun _ => rfl, fun h => absurd h (by simp)⟩
theorem conv_byt {w : World} {v : Value} {bs : List UInt8} (h : Byt w v bs) : (convert 28 9 v).run Tryd.prog w = .ok (.string ⟨bs.toArray⟩) w := by
  obtain ⟨A, c, rfl, _, _, h4⟩ := h
  by_cases hp : 0 < bs.length
  · obtain ⟨b, o, rfl, h5⟩ := h4 hp
    have := run_convert_bytes_arg (P := Tryd.prog) w 28 5 Tryd.underlying28 Tryd.underlying5 b o bs.length c (bs.map fun b => (b.toNat : Int)) (by simp) (fun i hi => by rw [h5 i _ (List.getElem?_eq_getElem hi), getD_by8 (List.getElem?_eq_getElem hi)]) 9 Tryd.underlying9
    rw [this, strOfNums]
    have e := bytesOf_vals bs
    unfold Lib.bytesOf at e
    rw [e]
  · have h0 : bs = [] := List.eq_nil_of_length_eq_zero (by omega)
    subst h0
    exact run_convert_bytes_zero (P := Tryd.prog) w 28 5 Tryd.underlying28 Tryd.underlying5 A c 9 Tryd.underlying9

theorem conv28 (w1 : World) (O : Obj) : (convert 28 28 (.slice (some ⟨w1.heap.size + 1, 0, none⟩) 1 1)).run Tryd.prog ((w1.alloc O).alloc (.cells #[.int .u8 120] 5)) = .ok (.slice (some ⟨w1.heap.size + 1, 0, none⟩) 1 1) ((w1.alloc O).alloc (.cells #[.int .u8 120] 5 (1, 2))) := by
  have := Lib.run_convert_bytes_const (P := Tryd.prog) (w1.alloc O) 28 5 #[.int .u8 120] 1 1 Tryd.underlying28 Tryd.underlying5
  rwa [World.size_alloc] at this

theorem byt120 (w1 : World) (O : Obj) : Byt ((w1.alloc O).alloc (.cells #[.int .u8 120] 5 (1, 2))) (.slice (some ⟨w1.heap.size + 1, 0, none⟩) 1 1) [120] := by
  refine ⟨some ⟨w1.heap.size + 1, 0, none⟩, 1, rfl, by simp, (fun e => by cases e), fun _ => ⟨w1.heap.size + 1, 0, rfl, fun j x hj => ?_⟩⟩
  have hn := heap_alloc_new (w1.alloc O) (.cells #[.int .u8 120] 5 (1, 2))
  rw [World.size_alloc] at hn
  rw [cell_of_row _ (w1.heap.size + 1) (0 + j) #[.int .u8 120] 5 (1, 2) hn]
  match j, hj with
  | 0, hj => simp at hj; subst hj; rfl
  | j + 1, hj => simp at hj

theorem tree_ats {w : World} {A : Option Addr} {n c : Nat} {es : List Ent} (h : TreeV w (.agg #[.slice A n c]) es) (hp : 0 < es.length) : ∃ b o, A = some ⟨b, o, none⟩ ∧ ∀ i e, es[i]? = some e → EntAt w b (o + i * 3) e := by
  obtain ⟨u, hu, A', c', h1, _, _, h4⟩ := h
  injection hu with hu
  injection hu with hu
  injection hu with hu _
  rw [h1] at hu
  injection hu with hu _ _
  obtain ⟨b, o, rfl, h5⟩ := h4 hp
  exact ⟨b, o, hu, h5⟩

set_option maxHeartbeats 1000000 in
set_option maxRecDepth 100000 in
theorem awake_any (m : Int) (w : World) (hm : Mx m w) :
    Calls Tryd.prog 8 #[] w fun x w' => x = .returned (.bool true) ∧ Below w.heap.size w w' := by
  have C1 := Lib.hid (treeMake_any [] pA (.agg #[.slice none 0 0]) m w (TreeV.nil w) (by simp) (by simp [cnt]) (by simp) (by decide) hm)
  rw [make_a] at C1
  have C2 := Lib.hid (fun v bv w1 (hb : Below w.heap.size w w1) (h : TreeV w1 v ta) (h2 : Byt w1 bv [120]) => treePut_any ta pAB [120] v bv m w1 h h2 (by decide) (by decide) (by decide) (by decide) (by decide) (hm.below hb))
  rw [put_ab] at C2
  have C3 := Lib.hid (fun v w1 (hb : Below w.heap.size w w1) (h : TreeV w1 v tab) => treeGood_any tab v m w1 h (by decide) (by decide) (by decide) (hm.below hb))
  rw [good_tab] at C3
  unfold pA pAB at *
  go_enter Tryd.func8, Tryd.ntmps8
  go_wp2_with (first
    | (go_at_call 16; (with_reducible refine C1.out.mono ?_); rintro x w1 ⟨v1, rfl, ht1, hb1⟩; have T1 := Lib.hid ht1; obtain ⟨A1, c1, rfl⟩ := tpost_form ht1; clear ht1; have hlt1 := hb1.size; have K1 := Bk.new w1 25 #[.slice A1 ta.length c1]; have hbA := (hb1.alloc hlt1 (.cells #[.slice A1 ta.length c1] 25)).alloc (by simp; omega) (.cells #[.int .u8 120] 5 (1, 2)); have q28 := conv28 w1 (.cells #[.slice A1 ta.length c1] 25))
    | (go_at_call 22; (with_reducible refine (C2.out _ _ _ hbA (T1.out.below (((Below.refl _ w1).alloc (Nat.le_refl _) _).alloc (by simp) _)) (byt120 w1 _)).mono ?_); rintro x w2 ⟨v2, rfl, ht2, hb2⟩; have T2 := Lib.hid ht2; obtain ⟨A2, c2, rfl⟩ := tpost_form ht2; clear ht2; have K2 := (K1.alloc (.cells #[.int .u8 120] 5 (1, 2))).after hb2; have k2 := K2.cell; have f2 := K2.free; obtain ⟨b, o, rfl, hE⟩ := tree_ats T2.out (by decide); obtain ⟨x0, _, d0, _, _⟩ := (hE 0 _ rfl).set1 K2 (.slice (some ⟨b, o, none⟩) tab.length c2); obtain ⟨x1, _, _, d1, y1⟩ := (hE 1 _ rfl).set1 K2 (.slice (some ⟨b, o, none⟩) tab.length c2); have hcv := conv_byt y1; simp only [Nat.zero_mul, Nat.add_zero, Nat.one_mul] at d0 d1; clear hE)
    | (go_at_call 9; (with_reducible refine (C3.out _ _ ((hbA.trans (hb2.mono hbA.size)).setCell hlt1 _) (T2.out.set1 K2 _)).mono ?_); rintro x w4 ⟨rfl, hb4⟩)
    | fail)
  go_ret
  refine ⟨rfl, ?_⟩
  have h3 := (hbA.trans (hb2.mono hbA.size)).setCell (p := ⟨w1.heap.size, 0, none⟩) hlt1 (.slice (some ⟨b, o, none⟩) tab.length c2)
  exact h3.trans (hb4.mono h3.size)
end Go.Proofs.YtpfmenepgejgdaaDoor
