/-
  THE PACKAGE tree: up, Bytes. Own work.
-/
import Derived.Test.YtpfmenepgejgdaaDoorGood
namespace Go.Proofs.YtpfmenepgejgdaaDoor
open Go.RowKit

/-- Sorted. -/
def Srt (es : List Ent) : Prop := es.Pairwise (fun x y => Pl.pc (bd x.path) (bd y.path) < 0)
def atA (es : List Ent) (p : ByteArray) : Option Ent := es[ahead es p]?
/-- What up answers. -/
def upE (es : List Ent) (p : ByteArray) : Int :=
  if (upS p).toList == [] then 0 else if there es (upS p) then (match atA es (upS p) with | some e => if e.dir then 0 else 7 | none => 0) else 5

theorem there_some {es : List Ent} {p : ByteArray} (hs : Srt es) (h : there es p = true) : ∃ e, es[ahead es p]? = some e ∧ bd e.path = bd p ∧ ahead es p < es.length := by
  obtain ⟨x, hx, hq⟩ := List.any_eq_true.1 h
  obtain ⟨i, hi⟩ := List.mem_iff_getElem?.1 hx
  have h0 : bd x.path = bd p := Pl.pc_eq.1 (by simpa using hq)
  have ha : ahead es p = i := by
    obtain ⟨hii, rfl⟩ := List.getElem?_eq_some_iff.1 hi
    refine ahead_at (by omega) (fun t e ht he => ?_) (fun t e ht he => ?_)
    · obtain ⟨hti, rfl⟩ := List.getElem?_eq_some_iff.1 he
      have := List.pairwise_iff_getElem.1 hs t i hti hii ht
      rwa [h0] at this
    · obtain ⟨hti, rfl⟩ := List.getElem?_eq_some_iff.1 he
      rcases Nat.lt_or_ge i t with hlt | hge
      · have := List.pairwise_iff_getElem.1 hs i t hii hti hlt
        rw [h0] at this
        rcases Pl.pc_range (bd es[t].path) (bd p) with h2 | h2 | h2
        · have := Pl.pc_trans this (by omega : Pl.pc (bd es[t].path) (bd p) < 0); rw [Pl.pc_self] at this; omega
        · omega
        · omega
      · obtain rfl : t = i := by omega
        rw [h0, Pl.pc_self]; omega
  refine ⟨x, by rw [ha]; exact hi, h0, ?_⟩
  rw [ha]
  exact (List.getElem?_eq_some_iff.1 hi).1

theorem treeUp_any (es : List Ent) (v : Value) (p : ByteArray) (m : Int) (w : World) (h : Ents w v es) (hn : es.length ≤ 1048576) (hz : ∀ e ∈ es, e.path.size ≤ 1048576) (hp : p.size ≤ 1048576) (hm : Mx m w)
    (hs : Srt es) :
    Calls Tryd.prog 75 #[v, .string p] w fun x w' => x = .returned (.int .i64 (upE es p)) ∧ Below w.heap.size w w' := by
  have hus := upS_size p
  by_cases h0 : ((upS p).toList == []) = true
  · have F : Hid (upE es p = 0) := by
      have : upE es p = 0 := by rw [upE, if_pos h0]
      exact this
    clear h hz hs
    go_enter Tryd.func75, Tryd.ntmps75
    go_wp2_with (go_at_call 38; refine (up_any _ m _ hp hm).mono ?_; rintro x w1 ⟨rfl, hb1⟩)
    go_ret
    exact ⟨ret_int F.out.symm, hb1⟩
  · have C := Lib.hid (fun w1 (hb : Below w.heap.size w w1) => find_any es v (upS p) m w1 (h.below hb) hn hz (by omega) (hm.below hb) hs)
    cases ht : there es (upS p) with
    | false =>
      have T := Lib.hid ht
      have F : Hid (upE es p = 5) := by
        have : upE es p = 5 := by rw [upE, if_neg h0, ht]; rfl
        exact this
      clear h hz hs ht
      go_enter Tryd.func75, Tryd.ntmps75
      go_wp2_with (first
        | (go_at_call 38; refine (up_any _ m _ hp hm).mono ?_; rintro x w1 ⟨rfl, hb1⟩)
        | (go_at_call 41; refine (C.out _ hb1).mono ?_; rintro x w2 ⟨rfl, hb2⟩; rw [T.out]))
      go_ret
      exact ⟨ret_int F.out.symm, hb1.trans (hb2.mono hb1.size)⟩
    | true =>
      have T := Lib.hid ht
      obtain ⟨e, he, _, hlt⟩ := there_some hs ht
      have F : Hid (upE es p = if e.dir then 0 else 7) := by
        have : upE es p = if e.dir then 0 else 7 := by rw [upE, if_neg h0, ht, if_pos rfl, atA, he]
        exact this
      obtain ⟨A, c, rfl, hlc, hnone, hcell⟩ := h
      obtain ⟨b, o, rfl, hc⟩ := hcell (by omega)
      obtain ⟨u, c0, c1, c2, hu⟩ := hc _ e he
      have HU := Lib.hid hu
      clear hcell hnone hz hs ht hc he hu
      cases hd : e.dir
      all_goals
        rw [hd] at c1 F
        go_enter Tryd.func75, Tryd.ntmps75
        go_wp2_with (first
          | (go_at_call 38; refine (up_any _ m _ hp hm).mono ?_; rintro x w1 ⟨rfl, hb1⟩)
          | (go_at_call 41; refine (C.out _ hb1).mono ?_; rintro x w2 ⟨rfl, hb2⟩; rw [T.out]; have hb12 := hb1.trans (hb2.mono hb1.size); have g1 := cell_below hb12 c1))
        go_ret
        exact ⟨ret_int F.out.symm, hb12⟩

theorem treeBytes_any (es : List Ent) (v : Value) (m : Int) (w : World) (h : TreeV w v es) (hn : es.length ≤ 1048576) (hc : cnt es ≤ 1048576) (hz : ∀ e ∈ es, e.path.size ≤ 1048576) (hm : Mx m w) :
    Calls Tryd.prog 10 #[v] w fun x w' => x = .returned (.int .i64 (if goodT es then (cnt es : Int) else 0)) ∧ Below w.heap.size w w' := by
  have C := Lib.hid (fun w1 (hb : Below w.heap.size w w1) => treeGood_any es v m w1 (h.below hb) hn hc hz (hm.below hb))
  have D := Lib.hid (fun v' w1 (h : Ents w1 v' es) => count_any es v' w1 h hn hc)
  obtain ⟨u, rfl, hu⟩ := h
  have HU := Lib.hid hu
  obtain ⟨A, c, rfl, _⟩ := hu
  clear hz
  have B0 := (Below.refl w.heap.size w).alloc (Nat.le_refl _) (.cells #[.slice A es.length c] 25)
  cases hg : goodT es
  all_goals
    have G := Lib.hid hg
    clear hg
    go_enter Tryd.func10, Tryd.ntmps10
    go_wp2_with (first
      | (go_at_call 9; refine (C.out _ ((Below.refl _ _).alloc (Nat.le_refl _) _)).mono ?_; rintro x w1 ⟨rfl, hb1⟩; rw [G.out]; have k1 := ((Bk.new w _ _).after hb1).cell)
      | (go_at_call 37; refine (D.out _ _ (HU.out.below (B0.trans (hb1.mono (by simp))))).mono ?_; rintro x w2 ⟨rfl, hb2⟩))
    go_ret
  · exact ⟨rfl, B0.trans (hb1.mono (by simp))⟩
  · exact ⟨rfl, (B0.trans (hb1.mono (by simp))).trans (hb2.mono (by have := hb1.size; simp at this; omega))⟩
end Go.Proofs.YtpfmenepgejgdaaDoor
