/-
  THE PACKAGE tree: Move, to its end. Own work.
-/
import Derived.Test.YtpfmenepgejgdaaDoorMove
import Derived.Deep.RegionHeld3
namespace Go.Proofs.YtpfmenepgejgdaaDoor
open Go.RowKit

theorem EC.erase {w : World} {es : List Ent} {cs : List Value} {i : Nat} (h : EC w es cs) (hi : i < es.length) : EC w (es.take i ++ es.drop (i + 1)) (cs.take (i * 3) ++ cs.drop (i * 3 + 3)) := by
  have h1 := h
  rw [← List.take_append_drop i es] at h1
  have h2 := h
  rw [← List.take_append_drop (i + 1) es] at h2
  have a := h1.split.1
  have b := h2.split.2
  rw [List.length_take_of_le (by omega)] at a
  rw [List.length_take_of_le (by omega), show (i + 1) * 3 = i * 3 + 3 by omega] at b
  exact EC.app a b
theorem erE_sub (es : List Ent) (p : ByteArray) : (erE es p).Sublist es := by
  rw [erE, ← List.eraseIdx_eq_take_drop_succ]
  exact List.eraseIdx_sublist _ _
theorem cnt_sub {a b : List Ent} (h : a.Sublist b) : cnt a ≤ cnt b := by
  induction h with
  | slnil => exact Nat.le_refl _
  | cons x _ ih => rw [cnt_cons]; omega
  | cons_cons x _ ih => rw [cnt_cons, cnt_cons]; omega
theorem erE_len {es : List Ent} {p : ByteArray} (h : ahead es p < es.length) : (erE es p).length = es.length - 1 := by
  rw [erE, List.length_append, List.length_take, List.length_drop]
  omega
theorem erE_srt {es : List Ent} (p : ByteArray) (h : Srt es) : Srt (erE es p) := List.Pairwise.sublist (erE_sub es p) h

theorem heldT {w4 W : World} {P1 P2 : Prop} (h : P1 ∧ P2 ∧ Below w4.heap.size w4 W) : Below w4.heap.size w4 W := h.2.2
theorem heldB {w w4 W : World} {P1 P2 : Prop} (hb : Below w.heap.size w w4) (h : P1 ∧ P2 ∧ Below w4.heap.size w4 W) : Below w.heap.size w W := hb.trans (h.2.2.mono hb.size)
theorem heldTrans {w4 W w5 : World} {P1 P2 : Prop} (h : P1 ∧ P2 ∧ Below w4.heap.size w4 W) (hb : Below W.heap.size W w5) : Below w4.heap.size w4 w5 := h.2.2.trans (hb.mono h.2.2.size)
theorem heldTrans2 {w4 W w5 : World} {P1 P2 : Prop} (h : P1 ∧ P2 ∧ Below w4.heap.size w4 W) (hb : Below w4.heap.size W w5) : Below w4.heap.size w4 w5 := h.2.2.trans hb
theorem heldS {w4 W : World} {P1 P2 : Prop} (h : P1 ∧ P2 ∧ Below w4.heap.size w4 W) : w4.heap.size ≤ W.heap.size := h.2.2.size
theorem cloneFacts {w4 W w5 : World} {P1 P2 : Prop} {v5 : Value} {n : Nat} {es : List Ent} {cs : List Value} (hown : w5.ownsRow W.heap.size 30 3 v5 n cs) (hcs : EC W es cs) (hb5 : Below W.heap.size W w5) (h : P1 ∧ P2 ∧ Below w4.heap.size w4 W) :
    ∃ n5, w4.heap.size ≤ n5 ∧ w5.ownsRow n5 30 3 v5 n cs ∧ (∀ w6, Below n5 w5 w6 → EC w6 es cs) ∧ n5 ≤ w5.heap.size :=
  ⟨W.heap.size, h.2.2.size, hown, fun _ hb6 => hcs.below (hb5.trans hb6), hb5.size⟩
theorem row_mono {w : World} {base base' : Nat} {e : TypeId} {size n : Nat} {v : Value} {xs : List Value} (h : w.ownsRow base e size v n xs) (hb : base' ≤ base) : w.ownsRow base' e size v n xs := by
  obtain ⟨h0, h⟩ := h
  refine ⟨h0, ?_⟩
  rcases h with h | ⟨g, cap, cur, h1, h2, h3⟩
  · exact .inl h
  · exact .inr ⟨g, cap, cur, h1, by omega, h3⟩

set_option maxRecDepth 100000 in
set_option maxHeartbeats 4000000 in
theorem move_late (es : List Ent) (from_ to_ : ByteArray) (v : Value) (m : Int) (w : World) (h : TreeV w v es) (hn : es.length ≤ 1000000) (hc : cnt es ≤ 1000000) (hz : ∀ e ∈ es, e.path.size ≤ 1048576) (hfrom : from_.size ≤ 1048576) (hto : to_.size ≤ 1048576) (hm : Mx m w)
    (hg : goodT es = true) (hgp : gpB from_ = true) (hgq : gpB to_ = true) (hth : there es from_ = true) (hda : dirAt es from_ = false) (hft : (from_.toList == to_.toList) = false) :
    Calls Tryd.prog 12 #[v, .string from_, .string to_] w (TPost (moveE es from_ to_) w) := by
  have HT := Lib.hid h
  have C1 := Lib.hid (fun w1 (hb : Below w.heap.size w w1) => treeGood_any es v m w1 (h.below hb) (by omega) (by omega) hz (hm.below hb))
  have C2 := Lib.hid (fun (p : ByteArray) (hp : p.size ≤ 1048576) w1 (hb : Below w.heap.size w w1) => good_any p m w1 hp (hm.below hb))
  obtain ⟨u, rfl, hu⟩ := id h
  have C3 := Lib.hid (fun (hs : Srt es) w1 (hb : Below w.heap.size w w1) => find_any es u from_ m w1 (hu.below hb) (by omega) hz hfrom (hm.below hb) hs)
  have C4 := Lib.hid (fun w1 (hb : Below w.heap.size w w1) => cloneE_any es u w1 (hu.below hb) (by omega))
  have hsrt := goodT_srt hg
  have hcn : cnt (erE es from_) ≤ 1000000 := Nat.le_trans (cnt_sub (erE_sub es from_)) hc
  obtain ⟨A, c, rfl, _, _, hcell⟩ := hu
  have B0 := ((Below.refl w.heap.size w).alloc (Nat.le_refl _) (.cells #[.slice A es.length c] 25)).alloc (by simp) (.cells #[.slice none 0 0] 25)
  have PF : Hid (moveE es from_ to_ = mv1 es (withE (erE es from_) ⟨to_, false, bAt es from_⟩)) := by
    have : moveE es from_ to_ = mv1 es (withE (erE es from_) ⟨to_, false, bAt es from_⟩) := by rw [moveE, hg, hgp, hgq, hth, hda, hft]; rfl
    exact this
  obtain ⟨e0, he0, _, hlt⟩ := there_some hsrt hth
  obtain ⟨b, o, rfl, hq⟩ := hcell (by omega)
  obtain ⟨u0, c0, c1, c2, hub⟩ := hq _ e0 he0
  have hd : e0.dir = false := by
    rw [dirAt, hth, atA, he0] at hda
    exact hda
  have J1 : Hid (w.cell? ⟨b, o + ahead es from_ * 3 + 1, none⟩ = some (.bool false)) := by rw [← hd]; exact c1
  have J2 := Lib.hid c2
  have BE : Hid (bAt es from_ = e0.b) := by
    have : bAt es from_ = e0.b := by rw [bAt, atA, he0]; rfl
    exact this
  have UB := Lib.hid hub
  have G := Lib.hid hg
  have GP := Lib.hid hgp
  have GQ := Lib.hid hgq
  have TH := Lib.hid hth
  have hl0 : e0.b.length ≤ 40000 := by
    have := cnt_mem (List.mem_of_getElem? he0)
    have := (goodT_len hg).2
    omega
  have hle := erE_len hlt
  obtain ⟨r, hr⟩ : ∃ r, r = withE (erE es from_) ⟨to_, false, bAt es from_⟩ := ⟨_, rfl⟩
  have C5 : Hid (∀ v6 w6, Below w.heap.size w w6 → Ents w6 v6 (erE es from_) → Calls Tryd.prog 43 #[.agg #[v6], .agg #[.string to_, .bool false, u0]] w6 (TPost r w6)) := by
    have : ∀ v6 w6, Below w.heap.size w w6 → Ents w6 v6 (erE es from_) → Calls Tryd.prog 43 #[.agg #[v6], .agg #[.string to_, .bool false, u0]] w6 (TPost r w6) := by
      intro v6 w6 hb6 hE
      rw [hr, BE.out]
      exact with_any (erE es from_) ⟨to_, false, e0.b⟩ _ _ m w6 ⟨v6, rfl, hE⟩ ⟨u0, rfl, UB.out.below hb6⟩ (by omega) hcn hl0 (fun e he => hz e ((erE_sub es from_).subset he)) hto (hm.below hb6) (erE_srt _ hsrt)
    exact this
  have PR : Hid (moveE es from_ to_ = mv1 es r) := PF.out.trans (by rw [hr])
  have HW : Hid (∃ A n c, u0 = .slice A n c) := by obtain ⟨A, c, h, _⟩ := UB.out; exact ⟨A, _, c, h⟩
  obtain ⟨uA, un, uc, rfl⟩ := HW.out
  clear hr
  obtain ⟨i, hi⟩ : ∃ i, i = ahead es from_ := ⟨_, rfl⟩
  have HI := Lib.hid hi
  rw [← hi] at J1 J2 hlt
  clear h hz hg hgp hgq hth hda hq c0 c1 c2 hub he0 hd hcell hi
  go_enter Tryd.func12, Tryd.ntmps12
  go_upto_region 12 with (first
    | (go_at_call 9; (with_reducible refine (C1.out _ (((Below.refl _ _).alloc (Nat.le_refl _) _).alloc (by simp) _)).mono ?_); rintro x w1 ⟨rfl, hb1⟩; rw [G.out]; have K1 := ((Bk.new w _ _).alloc _).after hb1; have K2 := (Bk.new1 w _ _ _).after hb1; have hb01 := B0.trans (hb1.mono (by simp; omega)))
    | (go_at_call 40; (with_reducible refine (C2.out from_ hfrom _ hb01).mono ?_); rintro x w2 ⟨rfl, hb2⟩; rw [GP.out]; have K3 := K1.after hb2; have K4 := K2.after hb2; have hb02 := hb01.trans (hb2.mono hb01.size))
    | (go_at_call 40; (with_reducible refine (C2.out to_ hto _ hb02).mono ?_); rintro x w3 ⟨rfl, hb3⟩; rw [GQ.out]; have K5 := K3.after hb3; have K6 := K4.after hb3; have hb03 := hb02.trans (hb3.mono hb02.size); have k1 := K5.cell)
    | (go_at_call 41; (with_reducible refine (C3.out hsrt _ hb03).mono ?_); rintro x w4 ⟨rfl, hb4⟩; rw [TH.out, ← HI.out]; clear k1; have K7 := K5.after hb4; have K8 := K6.after hb4; have hb04 := hb03.trans (hb4.mono hb03.size); have k1 := K7.cell; have j1 := cell_below hb04 J1.out))
  clear j1
  have j2 := cell_below hb04 J2.out
  have HER : Hid (erE es from_ = es.take i ++ es.drop (i + 1)) := by
    have : erE es from_ = es.take i ++ es.drop (i + 1) := by rw [erE, HI.out]
    exact this
  have wr1 : IntKind.i64.wrap ((i : Int) + 1) = (i : Int) + 1 := by rw [IntKind.wrap_i64]; omega
  have hblt : w.heap.size + 2 ≤ w4.heap.size := by have := hb1.size; have := hb2.size; have := hb3.size; have := hb4.size; simp at *; omega
  have hbw : b < w.heap.size := by
    have := J2.out
    rcases Nat.lt_or_ge b w.heap.size with h | h
    · exact h
    · simp [World.cell?, Array.getElem?_eq_none h] at this
  have k4h := K7.cell 0
  clear k1
  have k4h : w4.cell? ⟨w.heap.size, 0, none⟩ = some (.slice (some ⟨b, o, none⟩) es.length c) := k4h
  have hs05 := hb04.size
  by_cases h0 : r.1 = 0
  · go_region_held3 (fun w' => w'.cell? ⟨w.heap.size, 0, none⟩ = some (.slice (some ⟨b, o, none⟩) es.length c) ∧ w'.cell? ⟨b, o + i * 3 + 2, none⟩ = some (.slice uA un uc) ∧ Below w4.heap.size w4 w')
      (refine ⟨cell_below (w := w4) ?_ k4h, cell_below (w := w4) ?_ j2, ?_⟩ <;> first | assumption | exact (Below.refl _ w4).drew | exact Below.alloc (heldT (by assumption)) (heldS (by assumption)) _ | exact Below.alloc (by assumption) (by omega) _ | exact Below.setCell (by assumption) (by first | exact Nat.le_refl _ | (simp; omega)) _ | exact Below.setCell (heldT (by assumption)) (by first | exact Nat.le_refl _ | (simp; omega)) _)
      (first
        | (go_at_call 45; (with_reducible refine (C4.out _ (heldB hb04 (by assumption))).mono ?_); rintro x w5 ⟨v5, rfl, ⟨cs, hown, hcs⟩, hb5⟩; have hb45 : Below w4.heap.size w4 w5 := heldTrans (by assumption) hb5; have hs45 := hb45.size; have HF5 := Lib.hid hown.lt; obtain ⟨n5, hn45, hown5, hec5, hn55⟩ := cloneFacts (w4 := w4) hown hcs hb5 (by assumption); have HO5 := Lib.hid hown5; have HC5 := Lib.hid (hcs.below hb5); have HEC := Lib.hid hec5; clear hown hcs hown5 hec5; (try (have KX : Bk w5 w4.heap.size 25 #[.slice none 0 0] := (Bk.new w4.drew _ _).after hb5; have kx := KX.cell; have fx := KX.free)))
        | (go_at_call 44; (with_reducible refine (deleteE_any n5 es.length i cs v5 _ (by first | exact HO5.out | exact row_below HO5.out ((Below.refl _ w5).alloc (Nat.le_refl _) _)) hlt (by omega) HC5.out.cell1).mono ?_); rintro x w6 ⟨v6, rfl, hown6, hb6, hg6⟩; have hb46 : Below w4.heap.size w4 w6 := heldTrans2 (by assumption) (hb6.mono hn45); have hs46 := hb46.size; have HO6 := Lib.hid hown6; obtain ⟨A6, c6, rfl, hj6⟩ := own_form hown6; have HC6 : Hid (EC w6 es cs) := HEC.out w6 (by first | exact hb6 | exact ((Below.refl n5 w5).alloc hn55 _).trans hb6); have HE6 := Lib.hid (ents_of_own (es := erE es from_) (by rw [hle]; exact HO6.out) (by rw [HER.out]; exact HC6.out.erase hlt)); clear hown6 hj6; (try (have KX6 : Bk w6 w5.heap.size 25 #[.slice none 0 0] := (Bk.new w5 _ _).grown hg6 (fun e => by have := (HF5.out _ e.symm).2; omega); have kx6 := KX6.cell; have fx6 := KX6.free)); (try (have KX6 := KX.grown hg6 (fun e => by have := (HF5.out _ e.symm).1; simp at this; omega); have kx6 := KX6.cell; have fx6 := KX6.free)))
        | (go_at_call 43; (with_reducible refine (C5.out _ _ (heldB hb04 (by assumption)) (by first | (have := HE6.out; rw [hle] at this; exact this) | exact HE6.out | exact HE6.out.below ((Below.refl _ w6).alloc (Nat.le_refl _) _))).mono ?_); rintro x w7 ⟨v7, rfl, ht7, hb7⟩; have hb47 : Below w4.heap.size w4 w7 := heldTrans (by assumption) hb7; have hs47 := hb47.size; have T7 := Lib.hid ht7; obtain ⟨A7, c7, rfl⟩ := tpost_form ht7; clear ht7; (try (have KX7 : Bk w7 w6.heap.size 25 #[.slice none 0 0] := (Bk.new w6 _ _).after hb7; have kx7 := KX7.cell; have fx7 := KX7.free)); (try (have KX7 := KX6.after hb7; have kx7 := KX7.cell; have fx7 := KX7.free)))
        | fail)
    all_goals
      have hF := heldT (w4 := w4) (by assumption)
      have K7F := K7.after hF
      have K8F := K8.after hF
      have hbF := hb04.trans (hF.mono hb04.size)
      have k7F := K7F.cell
      have k8F := K8F.cell
      have f8F := K8F.free
      go_wp2_with fail
      refine bodyPost_ret (v := .tuple #[.agg #[.slice A7 r.2.length c7], .int .i64 0]) (by simp [results, Tryd.results12, go_sem, k8F]) rfl ⟨_, by rw [PR.out, mv1, if_pos h0], ?_, ?_⟩
      · rw [PR.out, mv1, if_pos h0]; first | exact (T7.out.below ((Below.refl _ _).alloc (Nat.le_refl _) _)).set1 K8F _ | exact (T7.out.set1 KX7 _).set1 K8F _
      · exact hbF.setCell (Nat.le_add_right _ 1) _
  · go_region_held3 (fun w' => w'.cell? ⟨w.heap.size, 0, none⟩ = some (.slice (some ⟨b, o, none⟩) es.length c) ∧ w'.cell? ⟨b, o + i * 3 + 2, none⟩ = some (.slice uA un uc) ∧ Below w4.heap.size w4 w')
      (refine ⟨cell_below (w := w4) ?_ k4h, cell_below (w := w4) ?_ j2, ?_⟩ <;> first | assumption | exact (Below.refl _ w4).drew | exact Below.alloc (heldT (by assumption)) (heldS (by assumption)) _ | exact Below.alloc (by assumption) (by omega) _ | exact Below.setCell (by assumption) (by first | exact Nat.le_refl _ | (simp; omega)) _ | exact Below.setCell (heldT (by assumption)) (by first | exact Nat.le_refl _ | (simp; omega)) _)
      (first
        | (go_at_call 45; (with_reducible refine (C4.out _ (heldB hb04 (by assumption))).mono ?_); rintro x w5 ⟨v5, rfl, ⟨cs, hown, hcs⟩, hb5⟩; have hb45 : Below w4.heap.size w4 w5 := heldTrans (by assumption) hb5; have hs45 := hb45.size; have HF5 := Lib.hid hown.lt; obtain ⟨n5, hn45, hown5, hec5, hn55⟩ := cloneFacts (w4 := w4) hown hcs hb5 (by assumption); have HO5 := Lib.hid hown5; have HC5 := Lib.hid (hcs.below hb5); have HEC := Lib.hid hec5; clear hown hcs hown5 hec5; (try (have KX : Bk w5 w4.heap.size 25 #[.slice none 0 0] := (Bk.new w4.drew _ _).after hb5; have kx := KX.cell; have fx := KX.free)))
        | (go_at_call 44; (with_reducible refine (deleteE_any n5 es.length i cs v5 _ (by first | exact HO5.out | exact row_below HO5.out ((Below.refl _ w5).alloc (Nat.le_refl _) _)) hlt (by omega) HC5.out.cell1).mono ?_); rintro x w6 ⟨v6, rfl, hown6, hb6, hg6⟩; have hb46 : Below w4.heap.size w4 w6 := heldTrans2 (by assumption) (hb6.mono hn45); have hs46 := hb46.size; have HO6 := Lib.hid hown6; obtain ⟨A6, c6, rfl, hj6⟩ := own_form hown6; have HC6 : Hid (EC w6 es cs) := HEC.out w6 (by first | exact hb6 | exact ((Below.refl n5 w5).alloc hn55 _).trans hb6); have HE6 := Lib.hid (ents_of_own (es := erE es from_) (by rw [hle]; exact HO6.out) (by rw [HER.out]; exact HC6.out.erase hlt)); clear hown6 hj6; (try (have KX6 : Bk w6 w5.heap.size 25 #[.slice none 0 0] := (Bk.new w5 _ _).grown hg6 (fun e => by have := (HF5.out _ e.symm).2; omega); have kx6 := KX6.cell; have fx6 := KX6.free)); (try (have KX6 := KX.grown hg6 (fun e => by have := (HF5.out _ e.symm).1; simp at this; omega); have kx6 := KX6.cell; have fx6 := KX6.free)))
        | (go_at_call 43; (with_reducible refine (C5.out _ _ (heldB hb04 (by assumption)) (by first | (have := HE6.out; rw [hle] at this; exact this) | exact HE6.out | exact HE6.out.below ((Below.refl _ w6).alloc (Nat.le_refl _) _))).mono ?_); rintro x w7 ⟨v7, rfl, ht7, hb7⟩; have hb47 : Below w4.heap.size w4 w7 := heldTrans (by assumption) hb7; have hs47 := hb47.size; have T7 := Lib.hid ht7; obtain ⟨A7, c7, rfl⟩ := tpost_form ht7; clear ht7; (try (have KX7 : Bk w7 w6.heap.size 25 #[.slice none 0 0] := (Bk.new w6 _ _).after hb7; have kx7 := KX7.cell; have fx7 := KX7.free)); (try (have KX7 := KX6.after hb7; have kx7 := KX7.cell; have fx7 := KX7.free)))
        | fail)
    all_goals
      have hF := heldT (w4 := w4) (by assumption)
      have K7F := K7.after hF
      have K8F := K8.after hF
      have hbF := hb04.trans (hF.mono hb04.size)
      have k7F := K7F.cell
      have k8F := K8F.cell
      have f8F := K8F.free
      go_wp2_with fail
      refine bodyPost_ret (v := .tuple #[.agg #[.slice (some ⟨b, o, none⟩) es.length c], .int .i64 r.1]) (by simp [results, Tryd.results12, go_sem, k8F]) rfl ⟨_, by rw [PR.out, mv1, if_neg h0], ?_, ?_⟩
      · rw [PR.out, mv1, if_neg h0]; exact (HT.out.below hbF).set1 K8F _
      · exact hbF.setCell (Nat.le_add_right _ 1) _

theorem treeMove_any (es : List Ent) (from_ to_ : ByteArray) (v : Value) (m : Int) (w : World) (h : TreeV w v es) (hn : es.length ≤ 1000000) (hc : cnt es ≤ 1000000) (hz : ∀ e ∈ es, e.path.size ≤ 1048576) (hfrom : from_.size ≤ 1048576) (hto : to_.size ≤ 1048576) (hm : Mx m w) :
    Calls Tryd.prog 12 #[v, .string from_, .string to_] w (TPost (moveE es from_ to_) w) := by
  cases hno : (goodT es && (gpB from_ && gpB to_) && there es from_ && !dirAt es from_ && !(from_.toList == to_.toList)) with
  | false => exact move_early es from_ to_ v m w h hn hc hz hfrom hto hm hno
  | true =>
    simp only [Bool.and_eq_true, Bool.not_eq_true'] at hno
    obtain ⟨⟨⟨⟨h1, h2, h3⟩, h4⟩, h5⟩, h6⟩ := hno
    exact move_late es from_ to_ v m w h hn hc hz hfrom hto hm h1 h2 h3 h4 h5 h6
end Go.Proofs.YtpfmenepgejgdaaDoor
