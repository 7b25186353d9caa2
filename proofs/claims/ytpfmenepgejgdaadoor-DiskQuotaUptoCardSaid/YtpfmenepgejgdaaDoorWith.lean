/-
  THE PACKAGE tree: with. Own work.
-/
import Derived.Test.YtpfmenepgejgdaaDoorFindT
import Derived.Test.YtpfmenepgejgdaaDoorInsert2
import Derived.Deep.DeepCutAuto
namespace Go.Proofs.YtpfmenepgejgdaaDoor
open Go.RowKit

def insE (es : List Ent) (e : Ent) : List Ent := if there es e.path then es.set (ahead es e.path) e else es.take (ahead es e.path) ++ e :: es.drop (ahead es e.path)
def dirAt (es : List Ent) (p : ByteArray) : Bool := there es p && (atA es p).any (·.dir)
def fullE (e : Ent) (l : List Ent) : Bool := decide (40 < l.length) || (decide (2048 < e.b.length) || decide (16384 < cnt l))
def withE (es : List Ent) (e : Ent) : Int × List Ent :=
  if upE es e.path = 0 then (if dirAt es e.path then (7, es) else if fullE e (insE es e) then (9, es) else (0, insE es e)) else (upE es e.path, es)

def WithPost (es : List Ent) (e : Ent) (w : World) (x : Ending) (w' : World) : Prop :=
  ∃ v', x = .returned (.tuple #[v', .int .i64 (withE es e).1]) ∧ TreeV w' v' (withE es e).2 ∧ Below w.heap.size w w'

theorem ahead_le (es : List Ent) (p : ByteArray) : ahead es p ≤ es.length := List.countP_le_length
theorem insE_len (es : List Ent) (e : Ent) : (insE es e).length ≤ es.length + 1 := by
  unfold insE
  split
  · rw [List.length_set]; omega
  · have := ahead_le es e.path
    simp only [List.length_append, List.length_take, List.length_cons, List.length_drop]
    omega
theorem cnt_append (a b : List Ent) : cnt (a ++ b) = cnt a + cnt b := by simp [cnt]
theorem cnt_cons (a : Ent) (b : List Ent) : cnt (a :: b) = a.b.length + cnt b := by simp [cnt]
theorem cnt_set (e : Ent) : ∀ (es : List Ent) (i : Nat), cnt (es.set i e) ≤ cnt es + e.b.length
  | [], i => by simp [cnt]
  | x :: r, 0 => by rw [List.set_cons_zero, cnt_cons, cnt_cons]; omega
  | x :: r, i + 1 => by have := cnt_set e r i; rw [List.set_cons_succ, cnt_cons, cnt_cons]; omega
theorem insE_cnt (es : List Ent) (e : Ent) : cnt (insE es e) ≤ cnt es + e.b.length := by
  unfold insE
  split
  · exact cnt_set e es _
  · rw [cnt_append, cnt_cons]
    have : cnt (es.take (ahead es e.path)) + cnt (es.drop (ahead es e.path)) = cnt es := by rw [← cnt_append, List.take_append_drop]
    omega

/-- A tree's store into a result. -/
theorem Byt.set1 {w : World} {v : Value} {bs : List UInt8} {g : Nat} {t : TypeId} {A : Option Addr} {n c : Nat} (h : Byt w v bs) (B : Bk w g t #[.slice A n c]) (x : Value) : Byt (w.setCell ⟨g, 0, none⟩ x) v bs :=
  h.set B (by simp) 0 x
theorem EntAt.set1 {w : World} {b o : Nat} {e : Ent} {g : Nat} {t : TypeId} {A : Option Addr} {n c : Nat} (h : EntAt w b o e) (B : Bk w g t #[.slice A n c]) (x : Value) : EntAt (w.setCell ⟨g, 0, none⟩ x) b o e := by
  obtain ⟨u, h1, h2, h3, h4⟩ := h
  have hne : g ≠ b := by
    rintro rfl
    rw [B.cell] at h1
    rcases o with _ | o
    · simp at h1
    · simp at h1
  exact ⟨u, (World.cell?_setCell_far w _ _ x hne).trans h1, (World.cell?_setCell_far w _ _ x hne).trans h2, (World.cell?_setCell_far w _ _ x hne).trans h3, h4.set1 B x⟩
theorem Ents.set1 {w : World} {v : Value} {es : List Ent} {g : Nat} {t : TypeId} {A : Option Addr} {n c : Nat} (h : Ents w v es) (B : Bk w g t #[.slice A n c]) (x : Value) : Ents (w.setCell ⟨g, 0, none⟩ x) v es := by
  obtain ⟨A, c, h1, h2, h3, h4⟩ := h
  refine ⟨A, c, h1, h2, h3, fun hp => ?_⟩
  obtain ⟨b, o, e, h5⟩ := h4 hp
  exact ⟨b, o, e, fun j x hj => (h5 j x hj).set1 B _⟩

theorem ents_get {w : World} {g n cap : Nat} {es : List Ent} {i : Nat} {e : Ent} (h : Ents w (.slice (some ⟨g, 0, none⟩) n cap) es) (hi : es[i]? = some e) : EntAt w g (i * 3) e := by
  obtain ⟨A, c, e1, _, _, h4⟩ := h
  obtain ⟨b, o, rfl, h5⟩ := h4 (by have := (List.getElem?_eq_some_iff.1 hi).1; omega)
  injection e1 with e1 _ _
  injection e1 with e1
  injection e1 with e1 e2 _
  subst e1 e2
  have := h5 i e hi
  rwa [Nat.zero_add] at this
theorem dir_at {w : World} {g n cap : Nat} {es : List Ent} {i : Nat} {e : Ent} {d : Bool} (h : Ents w (.slice (some ⟨g, 0, none⟩) n cap) es) (hi : es[i]? = some e) (hd : e.dir = d) : w.cell? ⟨g, i * 3 + 1, none⟩ = some (.bool d) := by
  obtain ⟨u, _, h1, _⟩ := ents_get h hi
  rw [← hd]
  exact h1

set_option maxHeartbeats 1000000 in
theorem with_up (es : List Ent) (e : Ent) (v ev : Value) (m : Int) (w : World) (h : TreeV w v es) (he : EntV w ev e) (hn : es.length ≤ 1000000) (hz : ∀ e ∈ es, e.path.size ≤ 1048576) (hp : e.path.size ≤ 1048576) (hm : Mx m w)
    (hs : Srt es) (hu0 : ¬ upE es e.path = 0) : Calls Tryd.prog 43 #[v, ev] w (WithPost es e w) := by
  obtain ⟨u, rfl, hu⟩ := h
  obtain ⟨eb, rfl, heb⟩ := he
  have HU := Lib.hid hu
  have C1 := Lib.hid (fun w1 (hb : Below w.heap.size w w1) => treeUp_any es u e.path m w1 (hu.below hb) (by omega) hz hp (hm.below hb) hs)
  obtain ⟨A, c, rfl, _⟩ := hu
  obtain ⟨A2, c2, rfl, _⟩ := heb
  clear hz
  have WE : Hid (withE es e = (upE es e.path, es)) := by
    have : withE es e = (upE es e.path, es) := by rw [withE, if_neg hu0]
    exact this
  have B0 := (((Below.refl w.heap.size w).alloc (Nat.le_refl _) (.cells #[.slice A es.length c] 25)).alloc (by simp) (.cells #[.string e.path, .bool e.dir, .slice A2 e.b.length c2] 30)).alloc (by simp; omega) (.cells #[.slice none 0 0] 25)
  have HB0 := Lib.hid B0
  go_enter Tryd.func43, Tryd.ntmps43
  go_wp2_with (go_at_call 75; (with_reducible refine (C1.out _ ((((Below.refl w.heap.size w).alloc (Nat.le_refl _) _).alloc (by simp) _).alloc (by simp; omega) _)).mono ?_); rintro x w1 ⟨rfl, hb1⟩; have k1 := ((((Bk.new w _ _).alloc _).alloc _).after hb1).cell; have K3 := (Bk.new2 w _ _ _ _).after hb1; have k3 := K3.cell; have f3 := K3.free; have hb01 := HB0.out.trans (hb1.mono (by simp; omega)))
  refine bodyPost_ret (v := .tuple #[.agg #[.slice A es.length c], .int .i64 (upE es e.path)]) (by simp [results, Tryd.results43, go_sem, k3]) rfl ⟨_, by rw [WE.out], ?_, ?_⟩
  · rw [WE.out]; exact ⟨_, rfl, (HU.out.below hb01).set1 K3 _⟩
  · exact hb01.setCell (by simp; omega) _

set_option maxHeartbeats 1000000 in
theorem with_dir (es : List Ent) (e : Ent) (v ev : Value) (m : Int) (w : World) (h : TreeV w v es) (he : EntV w ev e) (hn : es.length ≤ 1000000) (hz : ∀ e ∈ es, e.path.size ≤ 1048576) (hp : e.path.size ≤ 1048576) (hm : Mx m w)
    (hs : Srt es) (hu0 : upE es e.path = 0) (hd : dirAt es e.path = true) : Calls Tryd.prog 43 #[v, ev] w (WithPost es e w) := by
  obtain ⟨u, rfl, hu⟩ := h
  obtain ⟨eb, rfl, heb⟩ := he
  have HU := Lib.hid hu
  have U0 := Lib.hid hu0
  have C1 := Lib.hid (fun w1 (hb : Below w.heap.size w w1) => treeUp_any es u e.path m w1 (hu.below hb) (by omega) hz hp (hm.below hb) hs)
  have C2 := Lib.hid (fun w1 (hb : Below w.heap.size w w1) => cloneE_any es u w1 (hu.below hb) (by omega))
  have C3 := Lib.hid (fun v' w1 (hb : Below w.heap.size w w1) (hl : Ents w1 v' es) => find_any es v' e.path m w1 hl (by omega) hz hp (hm.below hb) hs)
  have WE : Hid (withE es e = (7, es)) := by
    have : withE es e = (7, es) := by rw [withE, if_pos hu0, if_pos hd]
    exact this
  simp only [dirAt, Bool.and_eq_true] at hd
  obtain ⟨hth, hd⟩ := hd
  obtain ⟨e0, he0, _, hlt⟩ := there_some hs hth
  rw [atA, he0] at hd
  have hd0 : e0.dir = true := hd
  have TH := Lib.hid hth
  have HE0 := Lib.hid he0
  have D0 := Lib.hid hd0
  obtain ⟨A, c, rfl, _⟩ := hu
  obtain ⟨A2, c2, rfl, _⟩ := heb
  obtain ⟨i, hi⟩ : ∃ i, i = ahead es e.path := ⟨_, rfl⟩
  rw [← hi] at hlt
  have HI := Lib.hid hi
  clear hz hu0 hth hd he0 hd0 hi
  have B0 := (((Below.refl w.heap.size w).alloc (Nat.le_refl _) (.cells #[.slice A es.length c] 25)).alloc (by simp) (.cells #[.string e.path, .bool e.dir, .slice A2 e.b.length c2] 30)).alloc (by simp; omega) (.cells #[.slice none 0 0] 25)
  have HB0 := Lib.hid B0
  go_enter Tryd.func43, Tryd.ntmps43
  go_wp2_with (first
    | (go_at_call 75; (with_reducible refine (C1.out _ ((((Below.refl w.heap.size w).alloc (Nat.le_refl _) _).alloc (by simp) _).alloc (by simp; omega) _)).mono ?_); rintro x w1 ⟨rfl, hb1⟩; rw [U0.out]; have K1 := (((Bk.new w _ _).alloc _).alloc _).after hb1; have k1 := K1.cell; have K2 := ((Bk.new1 w _ _ _).alloc _).after hb1; have K3 := (Bk.new2 w _ _ _ _).after hb1; have hb01 := HB0.out.trans (hb1.mono (by simp; omega)))
    | (go_at_call 45; (with_reducible refine (C2.out _ hb01).mono ?_); rintro x w2 ⟨v', rfl, ⟨cs, hown, hcs⟩, hb2⟩; have HCS := Lib.hid hcs; obtain ⟨g, cap, cur, hv', hbg, hBg, _, _, _, htk⟩ := own_some hown (by omega); have HE := Lib.hid (ents_of_own hown (hcs.below hb2)); subst hv'; clear k1; have L1 := K1.after hb2; have k1 := L1.cell; have L2 := K2.after hb2; have k2 := L2.cell; have L3 := K3.after hb2; have hb02 := hb01.trans (hb2.mono hb01.size))
    | (go_at_call 41; (with_reducible refine (C3.out _ _ hb02 HE.out).mono ?_); rintro x w3 ⟨rfl, hb3⟩; rw [TH.out, ← HI.out]; clear k1 k2; have k1 := (L1.after hb3).cell; have k3 := (L3.after hb3).cell; have f3 := (L3.after hb3).free; have hb03 := hb02.trans (hb3.mono hb02.size); have q1 := dir_at (HE.out.below hb3) (i := i) (by rw [HI.out]; exact HE0.out) D0.out))
  refine bodyPost_ret (v := .tuple #[.agg #[.slice A es.length c], .int .i64 7]) (by simp [results, Tryd.results43, go_sem, k3]) rfl ⟨_, by rw [WE.out], ?_, ?_⟩
  · rw [WE.out]; exact ⟨_, rfl, (HU.out.below hb03).set1 (L3.after hb3) _⟩
  · exact hb03.setCell (by simp; omega) _
end Go.Proofs.YtpfmenepgejgdaaDoor
