/-
  THE PACKAGE tree: with, where a file stands there. Own work.
-/
import Derived.Test.YtpfmenepgejgdaaDoorWith
namespace Go.Proofs.YtpfmenepgejgdaaDoor
open Go.RowKit

def put3 (w : World) (g o : Nat) (p : ByteArray) (d : Bool) (u : Value) : World := ((w.setCell ⟨g, o, none⟩ (.string p)).setCell ⟨g, o + 1, none⟩ (.bool d)).setCell ⟨g, o + 2, none⟩ u
theorem addr_ne {g a b : Nat} (h : a ≠ b) : (⟨g, a, none⟩ : Addr) ≠ ⟨g, b, none⟩ := fun e => h (by injection e)
theorem put3_other {w : World} {g o : Nat} {p : ByteArray} {d : Bool} {u : Value} {q : Addr} (h0 : (⟨g, o, none⟩ : Addr) ≠ q) (h1 : (⟨g, o + 1, none⟩ : Addr) ≠ q) (h2 : (⟨g, o + 2, none⟩ : Addr) ≠ q) : (put3 w g o p d u).cell? q = w.cell? q := by
  rw [put3, World.cell?_setCell_other (h := h2), World.cell?_setCell_other (h := h1), World.cell?_setCell_other (h := h0)]
theorem put3_byt {w : World} {g o : Nat} {p : ByteArray} {d : Bool} {u v : Value} {e0 : Ent} {bs : List UInt8} (he : EntAt w g o e0) (h : Byt w v bs) : Byt (put3 w g o p d u) v bs := by
  obtain ⟨u0, c0, c1, c2, ⟨A0, n0, rfl, _⟩⟩ := he
  obtain ⟨A, c, h1, h2, h3, h4⟩ := h
  refine ⟨A, c, h1, h2, h3, fun hp => ?_⟩
  obtain ⟨b, o', e, h5⟩ := h4 hp
  refine ⟨b, o', e, fun j x hj => ?_⟩
  have hq := h5 j x hj
  rw [put3_other, hq]
  · intro e; rw [← e, c0] at hq; cases hq
  · intro e; rw [← e, c1] at hq; cases hq
  · intro e; rw [← e, c2] at hq; cases hq
theorem put3_cells {w : World} {g o : Nat} {p : ByteArray} {d : Bool} {u : Value} {e0 : Ent} (he : EntAt w g o e0) :
    (put3 w g o p d u).cell? ⟨g, o, none⟩ = some (.string p) ∧ (put3 w g o p d u).cell? ⟨g, o + 1, none⟩ = some (.bool d) ∧ (put3 w g o p d u).cell? ⟨g, o + 2, none⟩ = some u ∧
    (w.setCell ⟨g, o, none⟩ (.string p)).cell? ⟨g, o + 1, none⟩ = some (.bool e0.dir) ∧ ∃ u0, ((w.setCell ⟨g, o, none⟩ (.string p)).setCell ⟨g, o + 1, none⟩ (.bool d)).cell? ⟨g, o + 2, none⟩ = some u0 := by
  obtain ⟨u0, c0, c1, c2, _⟩ := he
  have n01 : (⟨g, o, none⟩ : Addr) ≠ ⟨g, o + 1, none⟩ := by simp
  have n02 : (⟨g, o, none⟩ : Addr) ≠ ⟨g, o + 2, none⟩ := by simp
  have n12 : (⟨g, o + 1, none⟩ : Addr) ≠ ⟨g, o + 2, none⟩ := by simp
  have a1 : (w.setCell ⟨g, o, none⟩ (.string p)).cell? ⟨g, o + 1, none⟩ = some (.bool e0.dir) := by rw [World.cell?_setCell_other (h := n01)]; exact c1
  have a2 : ((w.setCell ⟨g, o, none⟩ (.string p)).setCell ⟨g, o + 1, none⟩ (.bool d)).cell? ⟨g, o + 2, none⟩ = some u0 := by rw [World.cell?_setCell_other (h := n12), World.cell?_setCell_other (h := n02)]; exact c2
  refine ⟨?_, ?_, ?_, a1, u0, a2⟩
  · rw [put3, World.cell?_setCell_other (h := n02.symm), World.cell?_setCell_other (h := n01.symm)]
    exact World.cell?_setCell_same _ _ _ c0
  · rw [put3, World.cell?_setCell_other (h := n12.symm)]
    exact World.cell?_setCell_same _ _ _ a1
  · exact World.cell?_setCell_same _ _ _ a2
theorem put3_ents {w : World} {g n cap i : Nat} {es : List Ent} {e : Ent} {A : Option Addr} {c : Nat} (h : Ents w (.slice (some ⟨g, 0, none⟩) n cap) es) (hi : i < es.length) (hb : Byt w (.slice A e.b.length c) e.b) :
    Ents (put3 w g (i * 3) e.path e.dir (.slice A e.b.length c)) (.slice (some ⟨g, 0, none⟩) n cap) (es.set i e) := by
  have hei := ents_get h (List.getElem?_eq_getElem hi)
  obtain ⟨A', c', e1, h2, h3, h4⟩ := id h
  injection e1 with e1 e2 e3
  refine ⟨A', c', by rw [e1, e2, e3, List.length_set], by rw [List.length_set]; exact h2, h3, fun _ => ⟨g, 0, e1.symm, fun j x hj => ?_⟩⟩
  rw [Nat.zero_add]
  by_cases hji : i = j
  · subst hji
    rw [List.getElem?_set_self hi] at hj
    injection hj with hj
    subst hj
    obtain ⟨a, b, c2, _⟩ := put3_cells (p := e.path) (d := e.dir) (u := .slice A e.b.length c) hei
    exact ⟨_, a, b, c2, put3_byt hei hb⟩
  · rw [List.getElem?_set_ne hji] at hj
    obtain ⟨u, c0, c1, c2, hu⟩ := ents_get h hj
    refine ⟨u, ?_, ?_, ?_, put3_byt hei hu⟩
    · rw [put3_other (addr_ne (by omega)) (addr_ne (by omega)) (addr_ne (by omega))]; exact c0
    · rw [put3_other (addr_ne (by omega)) (addr_ne (by omega)) (addr_ne (by omega))]; exact c1
    · rw [put3_other (addr_ne (by omega)) (addr_ne (by omega)) (addr_ne (by omega))]; exact c2
theorem put3_bk {w : World} {g h o : Nat} {t : TypeId} {cs : Array Value} {p : ByteArray} {d : Bool} {u : Value} (B : Bk w h t cs) (hne : h ≠ g) : Bk (put3 w g o p d u) h t cs := ((B.far (p := ⟨g, o, none⟩) hne _).far (p := ⟨g, o + 1, none⟩) hne _).far (p := ⟨g, o + 2, none⟩) hne _
theorem put3_below {B : Nat} {a w : World} (h : Below B a w) {g o : Nat} (hg : B ≤ g) (p : ByteArray) (d : Bool) (u : Value) : Below B a (put3 w g o p d u) := ((h.setCell hg _).setCell hg _).setCell hg _

set_option maxHeartbeats 1000000 in
theorem with_set (es : List Ent) (e : Ent) (v ev : Value) (m : Int) (w : World) (h : TreeV w v es) (he : EntV w ev e) (hn : es.length ≤ 1000000) (hc : cnt es ≤ 1000000) (heb40 : e.b.length ≤ 40000) (hz : ∀ e ∈ es, e.path.size ≤ 1048576) (hp : e.path.size ≤ 1048576) (hm : Mx m w)
    (hs : Srt es) (hu0 : upE es e.path = 0) (hth : there es e.path = true) (hd : dirAt es e.path = false) : Calls Tryd.prog 43 #[v, ev] w (WithPost es e w) := by
  obtain ⟨u, rfl, hu⟩ := h
  obtain ⟨eb, rfl, heb⟩ := he
  have HU := Lib.hid hu
  have EB := Lib.hid heb
  have U0 := Lib.hid hu0
  have C1 := Lib.hid (fun w1 (hb : Below w.heap.size w w1) => treeUp_any es u e.path m w1 (hu.below hb) (by omega) hz hp (hm.below hb) hs)
  have C2 := Lib.hid (fun w1 (hb : Below w.heap.size w w1) => cloneE_any es u w1 (hu.below hb) (by omega))
  have C3 := Lib.hid (fun v' w1 (hb : Below w.heap.size w w1) (hl : Ents w1 v' es) => find_any es v' e.path m w1 hl (by omega) hz hp (hm.below hb) hs)
  have C4 := Lib.hid (fun w1 (hb : Below w.heap.size w w1) => own_any e (.agg #[.string e.path, .bool e.dir, eb]) w1 ⟨eb, rfl, heb.below hb⟩ (by omega))
  have WE : Hid (withE es e = if fullE e (insE es e) then (9, es) else (0, insE es e)) := by
    have : withE es e = if fullE e (insE es e) then (9, es) else (0, insE es e) := by rw [withE, if_pos hu0, if_neg (by rw [hd]; simp)]
    exact this
  have IE : Hid (insE es e = es.set (ahead es e.path) e) := by
    have : insE es e = es.set (ahead es e.path) e := by rw [insE, if_pos hth]
    exact this
  have IL := insE_len es e
  have IC := insE_cnt es e
  obtain ⟨e0, he0, _, hlt⟩ := there_some hs hth
  rw [dirAt, hth, atA, he0] at hd
  have hd0 : e0.dir = false := hd
  have TH := Lib.hid hth
  have HE0 := Lib.hid he0
  have D0 := Lib.hid hd0
  obtain ⟨A, c, rfl, _⟩ := hu
  obtain ⟨A2, c2, rfl, _⟩ := heb
  obtain ⟨i, hi⟩ : ∃ i, i = ahead es e.path := ⟨_, rfl⟩
  rw [← hi] at hlt
  have HI := Lib.hid hi
  clear hz hu0 hth hd he0 hd0 hi
  have B0 := (((Below.refl w.heap.size w).alloc (Nat.le_refl _) (.cells #[.slice A es.length c] 25)).alloc (by simp) (.cells #[.string e.path, .bool e.dir, .slice A2 e.b.length c2] 30)).alloc (by simp; omega) (.cells #[.slice none 0 0] 25)
  have HB0 := Lib.hid B0
  go_enter Tryd.func43, Tryd.ntmps43
  go_upto_region 11 with (first
    | (go_at_call 75; (with_reducible refine (C1.out _ ((((Below.refl w.heap.size w).alloc (Nat.le_refl _) _).alloc (by simp) _).alloc (by simp; omega) _)).mono ?_); rintro x w1 ⟨rfl, hb1⟩; rw [U0.out]; have K1 := (((Bk.new w _ _).alloc _).alloc _).after hb1; have k1 := K1.cell; have K2 := ((Bk.new1 w _ _ _).alloc _).after hb1; have K3 := (Bk.new2 w _ _ _ _).after hb1; have hb01 := HB0.out.trans (hb1.mono (by simp; omega)))
    | (go_at_call 45; (with_reducible refine (C2.out _ hb01).mono ?_); rintro x w2 ⟨v', rfl, ⟨cs, hown, hcs⟩, hb2⟩; have HCS := Lib.hid hcs; have HOW := Lib.hid hown; obtain ⟨g, cap, cur, hv', hbg, hBg, hcap1, _, hcl, htk⟩ := own_some hown (by omega); have HE := Lib.hid (ents_of_own hown (hcs.below hb2)); subst hv'; clear k1; have L1 := K1.after hb2; have k1 := L1.cell; have L2 := K2.after hb2; have k2 := L2.cell; have L3 := K3.after hb2; have hb02 := hb01.trans (hb2.mono hb01.size))
    | (go_at_call 41; (with_reducible refine (C3.out _ _ hb02 HE.out).mono ?_); rintro x w3 ⟨rfl, hb3⟩; rw [TH.out, ← HI.out]; clear k1 k2; have M1 := L1.after hb3; have M2 := L2.after hb3; have k2 := M2.cell; have M3 := L3.after hb3; have hb03 := hb02.trans (hb3.mono hb02.size); have q1 := dir_at (HE.out.below hb3) (i := i) (by rw [HI.out]; exact HE0.out) D0.out)
    | (go_at_call 42; (with_reducible refine (C4.out _ hb03).mono ?_); rintro x w4 ⟨v4, rfl, ⟨u4, rfl, hu4⟩, hb4, -⟩; have HV := Lib.hid hu4; obtain ⟨A4, c4, rfl, hj⟩ := hu4; clear hj; have N1 := M1.after hb4; have N2 := M2.after hb4; have N3 := M3.after hb4; have NG := (hBg.after hb3).after hb4; have hb04 := hb03.trans (hb4.mono hb03.size); have HE4 := Lib.hid ((HE.out.below hb3).below hb4); have EA := Lib.hid (ents_get HE4.out (i := i) (by rw [HI.out]; exact HE0.out)); obtain ⟨u0, s0, _, _, _⟩ := EA.out; obtain ⟨_, _, _, s1, u2, s2⟩ := put3_cells (p := e.path) (d := e.dir) (u := .slice A4 e.b.length c4) EA.out; have f0 := NG.free (i * 3); have f1 := (NG.set (i * 3) (.string e.path)).free (i * 3 + 1); have f2 := ((NG.set (i * 3) (.string e.path)).set (i * 3 + 1) (.bool e.dir)).free (i * 3 + 2); clear q1 k2))
  have hgw := NG.lt
  obtain ⟨w5, hw5⟩ : ∃ w5, w5 = put3 w4 g (i * 3) e.path e.dir (.slice A4 e.b.length c4) := ⟨_, rfl⟩
  have E5 : Hid (((w4.setCell ⟨g, i * 3, none⟩ (.string e.path)).setCell ⟨g, i * 3 + 1, none⟩ (.bool e.dir)).setCell ⟨g, i * 3 + 2, none⟩ (.slice A4 e.b.length c4) = w5) := hw5.symm
  rw [E5.out]
  have HL5 : Hid (Ents w5 (.slice (some ⟨g, 0, none⟩) es.length cap) (insE es e)) := by
    have : Ents w5 (.slice (some ⟨g, 0, none⟩) es.length cap) (insE es e) := by
      rw [IE.out, ← HI.out, hw5]
      exact put3_ents HE4.out hlt HV.out
    exact this
  have hhg : w.heap.size + 3 ≤ g := by have := hb1.size; simp at this; omega
  have P1 := put3_bk (g := g) (o := i * 3) (p := e.path) (d := e.dir) (u := .slice A4 e.b.length c4) N1 (by omega)
  rw [← hw5] at P1
  have P2 := put3_bk (g := g) (o := i * 3) (p := e.path) (d := e.dir) (u := .slice A4 e.b.length c4) N2 (by omega)
  rw [← hw5] at P2
  have P3 := put3_bk (g := g) (o := i * 3) (p := e.path) (d := e.dir) (u := .slice A4 e.b.length c4) N3 (by omega)
  rw [← hw5] at P3
  have hb05 : Below w.heap.size w w5 := by rw [hw5]; exact put3_below hb04 (by omega) _ _ _
  have IL5 : Hid ((insE es e).length = es.length) := by
    have : (insE es e).length = es.length := by rw [IE.out, List.length_set]
    exact this
  have C5 := Lib.hid (fun w1 (hb : Below w5.heap.size w5 w1) => count_any (insE es e) (.slice (some ⟨g, 0, none⟩) es.length cap) w1 (HL5.out.below hb) (by omega) (by omega))
  clear hw5 s0 s1 s2 f0 f1 f2 IL IC
  have k1 := P1.cell
  have k2 := P2.cell
  have k3 := P3.cell
  have g3 := P3.free
  go_wp2_with (go_at_call 37; (with_reducible refine (C5.out _ (Below.refl _ _)).mono ?_); rintro x w6 ⟨rfl, hb6⟩; clear k1 k2 k3 g3; have P16 := P1.after hb6; have P36 := P3.after hb6; have k1 := P16.cell; have k3 := P36.cell; have g3 := P36.free; have hb06 := hb05.trans (hb6.mono hb05.size))
  all_goals
    have CN : Hid (fullE e (insE es e) = (decide (40 < es.length) || (decide (2048 < e.b.length) || decide (16384 < cnt (insE es e))))) := by
      have : fullE e (insE es e) = (decide (40 < es.length) || (decide (2048 < e.b.length) || decide (16384 < cnt (insE es e)))) := by rw [fullE, IL5.out]
      exact this
    first
      | (have F : Hid (fullE e (insE es e) = true) := CN.out.trans (by simp; omega)
         refine bodyPost_ret (v := .tuple #[.agg #[.slice A es.length c], .int .i64 9]) (by simp [results, Tryd.results43, go_sem, k3]) rfl ⟨_, by rw [WE.out, if_pos F.out], ?_, ?_⟩
         · rw [WE.out, if_pos F.out]; first | exact ⟨_, rfl, (HU.out.below hb05).set1 P3 _⟩ | exact ⟨_, rfl, (HU.out.below hb06).set1 P36 _⟩
         · first | exact hb05.setCell (Nat.le_add_right _ 2) _ | exact hb06.setCell (Nat.le_add_right _ 2) _)
      | (have F : Hid (fullE e (insE es e) = false) := CN.out.trans (by simp; omega)
         have F2 : Hid (¬ fullE e (insE es e) = true) := (by rw [F.out]; simp : ¬ fullE e (insE es e) = true)
         refine bodyPost_ret (v := .tuple #[.agg #[.slice (some ⟨g, 0, none⟩) es.length cap], .int .i64 0]) (by simp [results, Tryd.results43, go_sem, k3]) rfl ⟨_, by rw [WE.out, if_neg F2.out], ?_, ?_⟩
         · rw [WE.out, if_neg F2.out]; exact ⟨_, rfl, (HL5.out.below hb6).set1 P36 _⟩
         · exact hb06.setCell (Nat.le_add_right _ 2) _)
end Go.Proofs.YtpfmenepgejgdaaDoor
