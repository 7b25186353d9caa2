/-
  THE PACKAGE tree: with, where nothing stands there; all roads. Own work.
-/
import Derived.Test.YtpfmenepgejgdaaDoorWith2
namespace Go.Proofs.YtpfmenepgejgdaaDoor
open Go.RowKit

theorem row_below {w w1 : World} {base : Nat} {e : TypeId} {size n : Nat} {v : Value} {xs : List Value} (h : w.ownsRow base e size v n xs) (hb : Below w.heap.size w w1) : w1.ownsRow base e size v n xs := by
  obtain ⟨h0, h⟩ := h
  refine ⟨h0, ?_⟩
  rcases h with h | ⟨g, cap, cur, h1, h2, h3, h4⟩
  · exact .inl h
  · exact .inr ⟨g, cap, cur, h1, h2, ((Bk.after (t := e) (cs := cur) h3 hb : Bk w1 g e cur)), h4⟩
theorem EC.split {w : World} : ∀ {a b : List Ent} {cs : List Value}, EC w (a ++ b) cs → EC w a (cs.take (a.length * 3)) ∧ EC w b (cs.drop (a.length * 3))
  | [], b, cs, h => ⟨by simp [EC], by simpa using h⟩
  | x :: r, b, cs, h => by
    obtain ⟨u, t, rfl, hu, h⟩ := h
    obtain ⟨h1, h2⟩ := EC.split h
    have e : (x :: r).length * 3 = r.length * 3 + 3 := by simp only [List.length_cons]; omega
    rw [e]
    exact ⟨⟨u, _, rfl, hu, h1⟩, h2⟩
theorem Byt.grown {w w1 : World} {v : Value} {bs : List UInt8} {row : Option Nat} (h : Byt w v bs) (hg : w.grownBy w1 row) (hne : ∀ k, v.ownBlock = some k → some k ≠ row) : Byt w1 v bs := by
  obtain ⟨A, c, rfl, h2, h3, h4⟩ := h
  refine ⟨A, c, rfl, h2, h3, fun hp => ?_⟩
  obtain ⟨b, o, rfl, h5⟩ := h4 hp
  refine ⟨b, o, rfl, fun j x hj => ?_⟩
  have hc := h5 j x hj
  have hlt : b < w.heap.size := by
    rcases Nat.lt_or_ge b w.heap.size with h | h
    · exact h
    · simp [World.cell?, Array.getElem?_eq_none h] at hc
  exact (World.cell?_of_block (w := w) (a := ⟨b, o + j, none⟩) (hg.block b hlt (hne b rfl))).trans hc

set_option maxHeartbeats 1000000 in
theorem with_ins (es : List Ent) (e : Ent) (v ev : Value) (m : Int) (w : World) (h : TreeV w v es) (he : EntV w ev e) (hn : es.length ≤ 1000000) (hc : cnt es ≤ 1000000) (heb40 : e.b.length ≤ 40000) (hz : ∀ e ∈ es, e.path.size ≤ 1048576) (hp : e.path.size ≤ 1048576) (hm : Mx m w)
    (hs : Srt es) (hu0 : upE es e.path = 0) (hth : there es e.path = false) : Calls Tryd.prog 43 #[v, ev] w (WithPost es e w) := by
  obtain ⟨u, rfl, hu⟩ := h
  obtain ⟨eb, rfl, heb⟩ := he
  have HU := Lib.hid hu
  have U0 := Lib.hid hu0
  have C1 := Lib.hid (fun w1 (hb : Below w.heap.size w w1) => treeUp_any es u e.path m w1 (hu.below hb) (by omega) hz hp (hm.below hb) hs)
  have C2 := Lib.hid (fun w1 (hb : Below w.heap.size w w1) => cloneE_any es u w1 (hu.below hb) (by omega))
  have C3 := Lib.hid (fun v' w1 (hb : Below w.heap.size w w1) (hl : Ents w1 v' es) => find_any es v' e.path m w1 hl (by omega) hz hp (hm.below hb) hs)
  have C4 := Lib.hid (fun w1 (hb : Below w.heap.size w w1) => own_any e (.agg #[.string e.path, .bool e.dir, eb]) w1 ⟨eb, rfl, heb.below hb⟩ (by omega))
  have WE : Hid (withE es e = if fullE e (insE es e) then (9, es) else (0, insE es e)) := by
    have : withE es e = if fullE e (insE es e) then (9, es) else (0, insE es e) := by rw [withE, if_pos hu0, if_neg (by rw [dirAt, hth]; simp)]
    exact this
  have IL := insE_len es e
  have IC := insE_cnt es e
  have hlt := ahead_le es e.path
  obtain ⟨i, hi⟩ : ∃ i, i = ahead es e.path := ⟨_, rfl⟩
  have IE : Hid (insE es e = es.take i ++ ([e] ++ es.drop i)) := by
    have : insE es e = es.take i ++ ([e] ++ es.drop i) := by rw [insE, hth, hi]; rfl
    exact this
  have IL5 : Hid ((insE es e).length = es.length + 1) := by
    have : (insE es e).length = es.length + 1 := by
      rw [IE.out]
      simp only [List.length_append, List.length_take, List.length_cons, List.length_drop, List.length_nil]
      omega
    exact this
  have TH := Lib.hid hth
  obtain ⟨A, c, rfl, _⟩ := hu
  obtain ⟨A2, c2, rfl, _⟩ := heb
  rw [← hi] at hlt
  have HI := Lib.hid hi
  clear hz hu0 hth hi
  have B0 := (((Below.refl w.heap.size w).alloc (Nat.le_refl _) (.cells #[.slice A es.length c] 25)).alloc (by simp) (.cells #[.string e.path, .bool e.dir, .slice A2 e.b.length c2] 30)).alloc (by simp; omega) (.cells #[.slice none 0 0] 25)
  have HB0 := Lib.hid B0
  go_enter Tryd.func43, Tryd.ntmps43
  go_upto_region 11 with (first
    | (go_at_call 75; (with_reducible refine (C1.out _ ((((Below.refl w.heap.size w).alloc (Nat.le_refl _) _).alloc (by simp) _).alloc (by simp; omega) _)).mono ?_); rintro x w1 ⟨rfl, hb1⟩; rw [U0.out]; have K1 := (((Bk.new w _ _).alloc _).alloc _).after hb1; have k1 := K1.cell; have K2 := ((Bk.new1 w _ _ _).alloc _).after hb1; have K3 := (Bk.new2 w _ _ _ _).after hb1; have hb01 := HB0.out.trans (hb1.mono (by simp; omega)))
    | (go_at_call 45; (with_reducible refine (C2.out _ hb01).mono ?_); rintro x w2 ⟨v', rfl, ⟨cs, hown, hcs⟩, hb2⟩; have HCS := Lib.hid hcs; have HOW := Lib.hid hown; have HE := Lib.hid (ents_of_own hown (hcs.below hb2)); clear hown hcs k1; have L1 := K1.after hb2; have k1 := L1.cell; have L2 := K2.after hb2; have k2 := L2.cell; have L3 := K3.after hb2; have hb02 := hb01.trans (hb2.mono hb01.size))
    | (go_at_call 41; (with_reducible refine (C3.out _ _ hb02 HE.out).mono ?_); rintro x w3 ⟨rfl, hb3⟩; rw [TH.out, ← HI.out]; clear k1 k2; have M1 := L1.after hb3; have M2 := L2.after hb3; have k2 := M2.cell; have M3 := L3.after hb3; have hb03 := hb02.trans (hb3.mono hb02.size))
    | (go_at_call 42; (with_reducible refine (C4.out _ hb03).mono ?_); rintro x w4 ⟨v4, rfl, ⟨u4, rfl, hu4⟩, hb4, hf4⟩; have HF4 := Lib.hid (hf4 _ _ _ rfl); clear hf4; have HV := Lib.hid hu4; obtain ⟨A4, c4, rfl, hj⟩ := hu4; clear hj; have N1 := M1.after hb4; have N2 := M2.after hb4; have N3 := M3.after hb4; have HR4 := Lib.hid (row_below (row_below HOW.out hb3) hb4); have hb04 := hb03.trans (hb4.mono hb03.size); clear k2)
    | (go_at_call 76; refine (insertE_any w1.heap.size es.length i w4.heap.size cs _ _ _ v' _ (row_below HR4.out ((Below.refl _ w4).alloc (Nat.le_refl _) _)) (by have := hb2.size; have := hb3.size; have := hb4.size; simp; omega) hlt (by omega) HCS.out.cell1 (by simp [Value.oneCell']) (Bk.new _ _ _) (fun hk => by have := (HOW.out.lt _ hk).2; have := hb3.size; have := hb4.size; omega)).mono ?_; rintro x w5 ⟨v5, rfl, hown5, hb5, hg5⟩; have HO5 := Lib.hid hown5; clear hown5))
  have HBW : Hid (Below w1.heap.size w1 w5) := ((hb2.trans ((hb3.mono hb2.size).trans ((hb4.mono (Nat.le_trans hb2.size hb3.size)).trans ((Below.refl _ w4).alloc (by have := hb2.size; have := hb3.size; have := hb4.size; omega) _)))).trans hb5 : Below w1.heap.size w1 w5)
  have HUB : Hid (Byt w5 (.slice A4 e.b.length c4) e.b) := ((HV.out.below ((Below.refl _ w4).alloc (Nat.le_refl _) _)).grown hg5 (fun k hk e1 => by have := HF4.out k hk; have := (HOW.out.lt k e1.symm).2; have := hb3.size; omega) : Byt w5 (.slice A4 e.b.length c4) e.b)
  have HL5 : Hid (Ents w5 v5 (insE es e)) := by
    have : Ents w5 v5 (insE es e) := by
      have h0 := HCS.out
      rw [← List.take_append_drop i es] at h0
      obtain ⟨h1, h2⟩ := h0.split
      rw [List.length_take_of_le hlt] at h1 h2
      have h3 := EC.app (h1.below HBW.out) (EC.app (EC.one HUB.out) (h2.below HBW.out))
      rw [← IE.out] at h3
      have h4 := HO5.out
      rw [← IL5.out] at h4
      exact ents_of_own h4 h3
    exact this
  obtain ⟨A5, c5, hv5, _⟩ := own_form HO5.out
  have hsz1 : w.heap.size + 3 ≤ w1.heap.size := by have := hb1.size; simp at this; omega
  have P1 := (N1.alloc (.cells #[.string e.path, .bool e.dir, .slice A4 e.b.length c4] 30)).below hb5 (by omega)
  have P2 := (N2.alloc (.cells #[.string e.path, .bool e.dir, .slice A4 e.b.length c4] 30)).below hb5 (by omega)
  have P3 := (N3.alloc (.cells #[.string e.path, .bool e.dir, .slice A4 e.b.length c4] 30)).below hb5 (by omega)
  have hb05 : Below w.heap.size w w5 := hb01.trans (HBW.out.mono (by omega))
  have C5 := Lib.hid (fun w1 (hb : Below w5.heap.size w5 w1) => count_any (insE es e) v5 w1 (HL5.out.below hb) (by omega) (by omega))
  subst hv5
  have k1 := P1.cell
  have k2 := P2.cell
  have k3 := P3.cell
  have g3 := P3.free
  have hil : ((es.length + 1 : Nat) : Int) = (es.length : Int) + 1 := by omega
  go_wp2_with (go_at_call 37; (with_reducible refine (C5.out _ (Below.refl _ _)).mono ?_); rintro x w6 ⟨rfl, hb6⟩; clear k1 k2 k3 g3; have P16 := P1.after hb6; have P36 := P3.after hb6; have k1 := P16.cell; have k3 := P36.cell; have g3 := P36.free; have hb06 := hb05.trans (hb6.mono hb05.size))
  all_goals
    have CN : Hid (fullE e (insE es e) = (decide (40 < es.length + 1) || (decide (2048 < e.b.length) || decide (16384 < cnt (insE es e))))) := by
      have : fullE e (insE es e) = (decide (40 < es.length + 1) || (decide (2048 < e.b.length) || decide (16384 < cnt (insE es e)))) := by rw [fullE, IL5.out]
      exact this
    first
      | (have F : Hid (fullE e (insE es e) = true) := CN.out.trans (by simp; omega)
         refine bodyPost_ret (v := .tuple #[.agg #[.slice A es.length c], .int .i64 9]) (by simp [results, Tryd.results43, go_sem, k3]) rfl ⟨_, by rw [WE.out, if_pos F.out], ?_, ?_⟩
         · rw [WE.out, if_pos F.out]; first | exact ⟨_, rfl, (HU.out.below hb05).set1 P3 _⟩ | exact ⟨_, rfl, (HU.out.below hb06).set1 P36 _⟩
         · first | exact hb05.setCell (Nat.le_add_right _ 2) _ | exact hb06.setCell (Nat.le_add_right _ 2) _)
      | (have F : Hid (fullE e (insE es e) = false) := CN.out.trans (by simp; omega)
         have F2 : Hid (¬ fullE e (insE es e) = true) := (by rw [F.out]; simp : ¬ fullE e (insE es e) = true)
         refine bodyPost_ret (v := .tuple #[.agg #[.slice A5 (es.length + 1) c5], .int .i64 0]) (by simp [results, Tryd.results43, go_sem, k3]) rfl ⟨_, by rw [WE.out, if_neg F2.out], ?_, ?_⟩
         · rw [WE.out, if_neg F2.out]; exact ⟨_, rfl, (HL5.out.below hb6).set1 P36 _⟩
         · exact hb06.setCell (Nat.le_add_right _ 2) _)

theorem with_any (es : List Ent) (e : Ent) (v ev : Value) (m : Int) (w : World) (h : TreeV w v es) (he : EntV w ev e) (hn : es.length ≤ 1000000) (hc : cnt es ≤ 1000000) (heb40 : e.b.length ≤ 40000) (hz : ∀ e ∈ es, e.path.size ≤ 1048576) (hp : e.path.size ≤ 1048576) (hm : Mx m w)
    (hs : Srt es) : Calls Tryd.prog 43 #[v, ev] w (WithPost es e w) := by
  by_cases h0 : upE es e.path = 0
  · cases h1 : there es e.path with
    | false => exact with_ins es e v ev m w h he hn hc heb40 hz hp hm hs h0 h1
    | true =>
      cases h2 : dirAt es e.path with
      | false => exact with_set es e v ev m w h he hn hc heb40 hz hp hm hs h0 h1 h2
      | true => exact with_dir es e v ev m w h he hn hz hp hm hs h0 h2
  · exact with_up es e v ev m w h he hn hz hp hm hs h0
end Go.Proofs.YtpfmenepgejgdaaDoor
