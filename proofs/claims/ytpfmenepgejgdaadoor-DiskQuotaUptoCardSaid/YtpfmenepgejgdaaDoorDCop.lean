/-
  disk.copied: a tree with bytes of its own. Own work.
-/
import Derived.Test.YtpfmenepgejgdaaDoorRemove
namespace Go.Proofs.YtpfmenepgejgdaaDoor
open Go.RowKit

theorem Byt.away {w : World} {v : Value} {bs : List UInt8} (h : Byt w v bs) {g : Nat} (hne : v.ownBlock ≠ some g) (o : Nat) (x : Value) : Byt (w.setCell ⟨g, o, none⟩ x) v bs := by
  obtain ⟨A, c, rfl, h2, h3, h4⟩ := h
  refine ⟨A, c, rfl, h2, h3, fun hp => ?_⟩
  obtain ⟨b, o', rfl, h5⟩ := h4 hp
  refine ⟨b, o', rfl, fun j y hj => ?_⟩
  have : g ≠ b := fun e => hne (by rw [e]; rfl)
  rw [World.cell?_setCell_far w _ _ x this]
  exact h5 j y hj
/-- k are done. -/
def DC (w wr : World) (g cap k : Nat) (es : List Ent) : Prop :=
  ∃ cur : List Value, Bk wr g 30 cur.toArray ∧ cur.length = cap * 3 ∧ ∀ j e, es[j]? = some e → ∃ u, cur[j * 3]? = some (.string e.path) ∧ cur[j * 3 + 1]? = some (.bool e.dir) ∧ cur[j * 3 + 2]? = some u ∧
    ((j < k ∧ Byt wr u e.b ∧ u.ownBlock ≠ some g) ∨ (k ≤ j ∧ Byt w u e.b))
theorem DC.step {w wr w1 : World} {g cap k : Nat} {es : List Ent} {e : Ent} {v : Value} (h : DC w wr g cap k es) (he : es[k]? = some e) (hb : Below wr.heap.size wr w1) (hv : Byt w1 v e.b) (hf : ∀ b, v.ownBlock = some b → wr.heap.size ≤ b) (hc : es.length ≤ cap) :
    DC w (w1.setCell ⟨g, k * 3 + 2, none⟩ v) g cap (k + 1) es := by
  obtain ⟨cur, h1, h2, h3⟩ := h
  have hk : k < es.length := (List.getElem?_eq_some_iff.1 he).1
  have hgl := h1.lt
  have B1 := (h1.after hb).set (k * 3 + 2) v
  rw [List.setIfInBounds_toArray] at B1
  have hvg : v.ownBlock ≠ some g := fun e => by have := hf g e; omega
  refine ⟨_, B1, by simpa using h2, fun j x hj => ?_⟩
  obtain ⟨u, c0, c1, c2, hu⟩ := h3 j x hj
  have hjl : j < es.length := (List.getElem?_eq_some_iff.1 hj).1
  rcases Nat.lt_trichotomy j k with hlt | rfl | hgt
  · refine ⟨u, by rw [List.getElem?_set_ne (by omega)]; exact c0, by rw [List.getElem?_set_ne (by omega)]; exact c1, by rw [List.getElem?_set_ne (by omega)]; exact c2, .inl ⟨by omega, ?_⟩⟩
    rcases hu with ⟨_, h4, h5⟩ | ⟨h4, _⟩
    · exact ⟨(h4.below hb).away h5 _ _, h5⟩
    · omega
  · rw [he] at hj
    injection hj with hj
    subst hj
    exact ⟨v, by rw [List.getElem?_set_ne (by omega)]; exact c0, by rw [List.getElem?_set_ne (by omega)]; exact c1, List.getElem?_set_self (by omega), .inl ⟨by omega, hv.away hvg _ _, hvg⟩⟩
  · refine ⟨u, by rw [List.getElem?_set_ne (by omega)]; exact c0, by rw [List.getElem?_set_ne (by omega)]; exact c1, by rw [List.getElem?_set_ne (by omega)]; exact c2, .inr ⟨by omega, ?_⟩⟩
    rcases hu with ⟨h4, _⟩ | ⟨_, h4⟩
    · omega
    · exact h4
theorem DC.ents {w wr : World} {g cap : Nat} {es : List Ent} (h : DC w wr g cap es.length es) (hc : es.length ≤ cap) : Ents wr (.slice (some ⟨g, 0, none⟩) es.length cap) es := by
  obtain ⟨cur, h1, h2, h3⟩ := h
  refine ⟨_, _, rfl, hc, (fun e => by cases e), fun _ => ⟨g, 0, rfl, fun j e hj => ?_⟩⟩
  obtain ⟨u, c0, c1, c2, hu⟩ := h3 j e hj
  have hjl : j < es.length := (List.getElem?_eq_some_iff.1 hj).1
  have key : ∀ t x, cur[t]? = some x → wr.cell? ⟨g, 0 + t, none⟩ = some x := fun t x hx => by rw [h1.cell, Nat.zero_add]; simpa using hx
  refine ⟨u, key _ _ c0, by have := key _ _ c1; rwa [← Nat.add_assoc] at this, by have := key _ _ c2; rwa [← Nat.add_assoc] at this, ?_⟩
  rcases hu with ⟨_, h4, _⟩ | ⟨h4, _⟩
  · exact h4
  · omega

def DCopPost (es : List Ent) (w : World) (x : Ending) (w' : World) : Prop := ∃ v', x = .returned v' ∧ TreeV w' v' es ∧ Below w.heap.size w w'
set_option maxHeartbeats 1000000 in
theorem dcopied_any (es : List Ent) (v : Value) (w : World) (h : TreeV w v es) (hn : es.length ≤ 1048576) (hc : cnt es ≤ 1048576) :
    Calls Tryd.prog 60 #[v] w (DCopPost es w) := by
  obtain ⟨u, rfl, hu⟩ := h
  have C1 := Lib.hid (fun w1 (hb : Below w.heap.size w w1) => cloneE_any es u w1 (hu.below hb) hn)
  obtain ⟨A, c, rfl, _⟩ := hu
  have HN := Lib.hid hc
  clear hc
  have B0 := ((Below.refl w.heap.size w).alloc (Nat.le_refl _) (.cells #[.slice A es.length c] 25)).alloc (by simp) (.cells #[.slice none 0 0] 25)
  go_enter Tryd.func60, Tryd.ntmps60
  go_wp2_with (go_at_call 45; (with_reducible refine (C1.out _ B0).mono ?_); rintro x w1 ⟨v1, rfl, ⟨cs, hown, hcs⟩, hb1⟩; have HO := Lib.hid hown; have HCS := Lib.hid hcs; have K2 := (Bk.new1 w (.cells #[.slice A es.length c] 25) 25 #[.slice none 0 0]).after hb1; obtain ⟨A1, c1, rfl, hlc1, hn1, hj⟩ := own_form hown; clear hown hcs hj)
  by_cases hpos : 0 < es.length
  · obtain ⟨g, cap, cur, hv, hbg, hBg, hnc, hcm, hcl, htk⟩ := own_some HO.out hpos
    injection hv with hA _ hc1
    subst hA hc1
    unfold maxLen at hcm
    obtain ⟨w0, hw0⟩ : ∃ w0, w0 = (w.alloc (.cells #[.slice A es.length c] 25)).alloc (.cells #[.slice none 0 0] 25) := ⟨_, rfl⟩
    have hs0 : w.heap.size + 1 < w0.heap.size := by rw [hw0]; simp
    rw [← hw0] at B0 hbg HCS hb1
    have D0 : Hid (DC w0 w1 g c1 0 es) := by
      have : DC w0 w1 g c1 0 es := ⟨cur, hBg, hcl, fun j e hj => by
        obtain ⟨u, c0, c1', c2, hu⟩ := HCS.out.get hj
        have hjl : j < es.length := (List.getElem?_eq_some_iff.1 hj).1
        rw [← htk] at c0 c1' c2
        rw [List.getElem?_take] at c0 c1' c2
        rw [if_pos (by omega)] at c0 c1' c2
        exact ⟨u, c0, c1', c2, .inr ⟨Nat.zero_le _, hu⟩⟩⟩
      exact this
    clear hBg hcl htk HO HCS hn1 hw0
    go_loopw [10] (fun s10 wr => ∃ k : Nat, k ≤ es.length ∧ s10 = .int .i64 k ∧ Below w0.heap.size w0 wr ∧ Bk wr (w.heap.size + 1) 25 #[.slice none 0 0] ∧ DC w0 wr g c1 k es) (fun s10 _ => es.length - (intOf s10).toNat)
    case atStart => exact ⟨0, Nat.zero_le _, rfl, hb1, K2, D0.out⟩
    case round =>
      clear K2 D0 hb1
      obtain ⟨k, hk, rfl, hb, hK, hD⟩ := hrel
      by_cases hlt : k < es.length
      · obtain ⟨x, hkx⟩ : ∃ x, es[k]? = some x := ⟨_, List.getElem?_eq_getElem hlt⟩
        have hxb : x.b.length ≤ 1048576 := by have := cnt_mem (List.mem_of_getElem? hkx); have := HN.out; omega
        obtain ⟨u, q2, hu⟩ : ∃ u, wr.cell? ⟨g, k * 3 + 2, none⟩ = some u ∧ Byt wr u x.b := by
          obtain ⟨cur, h1, h2, h3⟩ := hD
          obtain ⟨u, _, _, c2, hu⟩ := h3 k x hkx
          refine ⟨u, by rw [h1.cell]; simpa using c2, ?_⟩
          rcases hu with ⟨h4, _⟩ | ⟨_, h4⟩
          · omega
          · exact h4.below hb
        have HD := Lib.hid hD
        have HX := Lib.hid hkx
        have C2 := Lib.hid (fun w2 (h : Below wr.heap.size wr w2) => cloneB_any x.b u w2 (hu.below h) hxb)
        obtain ⟨Au, cu, rfl, _⟩ := hu
        have hgl : g < wr.heap.size := by obtain ⟨_, h1, _⟩ := hD; exact h1.lt
        clear hD hkx
        have KG : ∃ cur : List Value, Bk wr g 30 cur.toArray := by obtain ⟨cur, h1, _⟩ := HD.out; exact ⟨cur, h1⟩
        obtain ⟨curg, KG⟩ := KG
        go_wp2_with (go_at_call 74; (with_reducible refine (C2.out _ (Below.refl _ _)).mono ?_); rintro y w2 ⟨v2, rfl, hv2, hb2, hf2⟩; have ST := Lib.hid (HD.out.step HX.out hb2 hv2 hf2 hnc); have q3 := cell_below hb2 q2; have f3 := (KG.after hb2).free; obtain ⟨A2, c2, rfl, hj⟩ := hv2; clear hj hf2 q2)
        go_roundw
        case rel => exact ⟨k + 1, hlt, by go_num, (hb.trans (hb2.mono hb.size)).setCell hbg _, (hK.after hb2).far (p := ⟨g, k * 3 + 2, none⟩) (by simp; omega) _, ST.out⟩
        case measure => simp [intOf]; omega
      · obtain rfl : es.length = k := by omega
        have HE := Lib.hid (hD.ents hnc)
        clear hD
        have k2 := hK.cell
        have f2 := hK.free
        go_wp2_with fail
        refine bodyPost_ret (v := .agg #[.slice (some ⟨g, 0, none⟩) es.length c1]) (by simp [results, Tryd.results60, go_sem, k2]) rfl ⟨_, rfl, ⟨_, rfl, HE.out.set1 hK _⟩, ?_⟩
        exact (B0.trans (hb.mono (by omega))).setCell (Nat.le_add_right _ 1) _
  · have h0 : es = [] := List.eq_nil_of_length_eq_zero (by omega)
    subst h0
    have k2 := K2.cell
    have f2 := K2.free
    simp only [List.length_nil] at *
    have hb01 := B0.trans (hb1.mono (by simp; omega))
    go_loopw [10] (fun s10 wr => s10 = .int .i64 0 ∧ wr = w1) (fun _ _ => 0)
    case atStart => exact ⟨rfl, rfl⟩
    case round =>
      obtain ⟨rfl, rfl⟩ := hrel
      go_wp2_with fail
      refine bodyPost_ret (v := .agg #[.slice A1 0 c1]) (by simp [results, Tryd.results60, go_sem, k2]) rfl ⟨_, rfl, ⟨_, rfl, A1, c1, rfl, Nat.zero_le _, hn1, fun h => absurd h (by simp)⟩, ?_⟩
      exact hb01.setCell (Nat.le_add_right _ 1) _
end Go.Proofs.YtpfmenepgejgdaaDoor
