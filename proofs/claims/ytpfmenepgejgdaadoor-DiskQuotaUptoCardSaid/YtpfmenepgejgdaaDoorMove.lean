/-
  THE PACKAGE tree: Move. Own work.
-/
import Derived.Test.YtpfmenepgejgdaaDoorPut
namespace Go.Proofs.YtpfmenepgejgdaaDoor
open Go.RowKit

/-- Without the entry at p. -/
def erE (es : List Ent) (p : ByteArray) : List Ent := es.take (ahead es p) ++ es.drop (ahead es p + 1)
def bAt (es : List Ent) (p : ByteArray) : List UInt8 := ((atA es p).map (·.b)).getD []
def mv1 (es : List Ent) (r : Int × List Ent) : Int × List Ent := if r.1 = 0 then (0, r.2) else (r.1, es)
def moveE (es : List Ent) (from_ to_ : ByteArray) : Int × List Ent :=
  if goodT es then (if gpB from_ && gpB to_ then (if there es from_ then (if dirAt es from_ then (7, es) else if from_.toList == to_.toList then (0, es) else mv1 es (withE (erE es from_) ⟨to_, false, bAt es from_⟩)) else (5, es)) else (4, es)) else (1, es)

set_option maxHeartbeats 2000000 in
theorem move_early (es : List Ent) (from_ to_ : ByteArray) (v : Value) (m : Int) (w : World) (h : TreeV w v es) (hn : es.length ≤ 1000000) (hc : cnt es ≤ 1000000) (hz : ∀ e ∈ es, e.path.size ≤ 1048576) (hfrom : from_.size ≤ 1048576) (hto : to_.size ≤ 1048576) (hm : Mx m w)
    (hno : (goodT es && (gpB from_ && gpB to_) && there es from_ && !dirAt es from_ && !(from_.toList == to_.toList)) = false) :
    Calls Tryd.prog 12 #[v, .string from_, .string to_] w (TPost (moveE es from_ to_) w) := by
  have HT := Lib.hid h
  have C1 := Lib.hid (fun w1 (hb : Below w.heap.size w w1) => treeGood_any es v m w1 (h.below hb) (by omega) (by omega) hz (hm.below hb))
  have C2 := Lib.hid (fun (p : ByteArray) (hp : p.size ≤ 1048576) w1 (hb : Below w.heap.size w w1) => good_any p m w1 hp (hm.below hb))
  obtain ⟨u, rfl, hu⟩ := id h
  have C3 := Lib.hid (fun (hs : Srt es) w1 (hb : Below w.heap.size w w1) => find_any es u from_ m w1 (hu.below hb) (by omega) hz hfrom (hm.below hb) hs)
  obtain ⟨A, c, rfl, _, _, hcell⟩ := hu
  have HC := Lib.hid hcell
  clear h hz hcell
  have B0 := ((Below.refl w.heap.size w).alloc (Nat.le_refl _) (.cells #[.slice A es.length c] 25)).alloc (by simp) (.cells #[.slice none 0 0] 25)
  have ME : Hid (moveE es from_ to_ = if goodT es then (if gpB from_ && gpB to_ then (if there es from_ then (if dirAt es from_ then (7, es) else if from_.toList == to_.toList then (0, es) else mv1 es (withE (erE es from_) ⟨to_, false, bAt es from_⟩)) else (5, es)) else (4, es)) else (1, es)) :=
    (rfl : moveE es from_ to_ = if goodT es then (if gpB from_ && gpB to_ then (if there es from_ then (if dirAt es from_ then (7, es) else if from_.toList == to_.toList then (0, es) else mv1 es (withE (erE es from_) ⟨to_, false, bAt es from_⟩)) else (5, es)) else (4, es)) else (1, es))
  cases hg : goodT es with
  | false =>
    have PF : Hid (moveE es from_ to_ = (1, es)) := ME.out.trans (by rw [hg]; rfl)
    have G := Lib.hid hg
    clear hg hno
    go_enter Tryd.func12, Tryd.ntmps12
    go_wp2_with (go_at_call 9; (with_reducible refine (C1.out _ (((Below.refl _ _).alloc (Nat.le_refl _) _).alloc (by simp) _)).mono ?_); rintro x w1 ⟨rfl, hb1⟩; rw [G.out]; have K1 := ((Bk.new w _ _).alloc _).after hb1; have K2 := (Bk.new1 w _ _ _).after hb1; have hb01 := B0.trans (hb1.mono (by simp; omega)); have k1 := K1.cell; have k2 := K2.cell; have f2 := K2.free)
    refine bodyPost_ret (v := .tuple #[.agg #[.slice A es.length c], .int .i64 1]) (by simp [results, Tryd.results12, go_sem, k2]) rfl ⟨_, by rw [PF.out], ?_, ?_⟩
    · rw [PF.out]; exact (HT.out.below hb01).set1 K2 _
    · exact hb01.setCell (Nat.le_add_right _ 1) _
  | true =>
    have hsrt := goodT_srt hg
    cases hgp : gpB from_ with
    | false =>
      have PF : Hid (moveE es from_ to_ = (4, es)) := ME.out.trans (by rw [hg, hgp]; rfl)
      have G := Lib.hid hg
      have GP := Lib.hid hgp
      clear hg hgp hno
      go_enter Tryd.func12, Tryd.ntmps12
      go_wp2_with (first
        | (go_at_call 9; (with_reducible refine (C1.out _ (((Below.refl _ _).alloc (Nat.le_refl _) _).alloc (by simp) _)).mono ?_); rintro x w1 ⟨rfl, hb1⟩; rw [G.out]; have K1 := ((Bk.new w _ _).alloc _).after hb1; have K2 := (Bk.new1 w _ _ _).after hb1; have hb01 := B0.trans (hb1.mono (by simp; omega)); have k1 := K1.cell; have k2 := K2.cell; have f2 := K2.free)
        | (go_at_call 40; (with_reducible refine (C2.out from_ hfrom _ hb01).mono ?_); rintro x w2 ⟨rfl, hb2⟩; rw [GP.out]; clear k1 k2 f2; have K3 := K1.after hb2; have K4 := K2.after hb2; have hb02 := hb01.trans (hb2.mono hb01.size); have k1 := K3.cell; have k2 := K4.cell; have f2 := K4.free))
      refine bodyPost_ret (v := .tuple #[.agg #[.slice A es.length c], .int .i64 4]) (by simp [results, Tryd.results12, go_sem, k2]) rfl ⟨_, by rw [PF.out], ?_, ?_⟩
      · rw [PF.out]; exact (HT.out.below hb02).set1 K4 _
      · exact hb02.setCell (Nat.le_add_right _ 1) _
    | true =>
      cases hgq : gpB to_ with
      | false =>
        have PF : Hid (moveE es from_ to_ = (4, es)) := ME.out.trans (by rw [hg, hgp, hgq]; rfl)
        have G := Lib.hid hg
        have GP := Lib.hid hgp
        have GQ := Lib.hid hgq
        clear hg hgp hgq hno
        go_enter Tryd.func12, Tryd.ntmps12
        go_wp2_with (first
          | (go_at_call 9; (with_reducible refine (C1.out _ (((Below.refl _ _).alloc (Nat.le_refl _) _).alloc (by simp) _)).mono ?_); rintro x w1 ⟨rfl, hb1⟩; rw [G.out]; have K1 := ((Bk.new w _ _).alloc _).after hb1; have K2 := (Bk.new1 w _ _ _).after hb1; have hb01 := B0.trans (hb1.mono (by simp; omega)); have k1 := K1.cell; have k2 := K2.cell; have f2 := K2.free)
          | (go_at_call 40; (with_reducible refine (C2.out from_ hfrom _ hb01).mono ?_); rintro x w2 ⟨rfl, hb2⟩; rw [GP.out]; clear k1 k2 f2; have K3 := K1.after hb2; have K4 := K2.after hb2; have hb02 := hb01.trans (hb2.mono hb01.size); have k1 := K3.cell; have k2 := K4.cell; have f2 := K4.free)
          | (go_at_call 40; (with_reducible refine (C2.out to_ hto _ hb02).mono ?_); rintro x w3 ⟨rfl, hb3⟩; rw [GQ.out]; clear k1 k2 f2; have K5 := K3.after hb3; have K6 := K4.after hb3; have hb03 := hb02.trans (hb3.mono hb02.size); have k1 := K5.cell; have k2 := K6.cell; have f2 := K6.free))
        refine bodyPost_ret (v := .tuple #[.agg #[.slice A es.length c], .int .i64 4]) (by simp [results, Tryd.results12, go_sem, k2]) rfl ⟨_, by rw [PF.out], ?_, ?_⟩
        · rw [PF.out]; exact (HT.out.below hb03).set1 K6 _
        · exact hb03.setCell (Nat.le_add_right _ 1) _
      | true =>
        cases hth : there es from_ with
        | false =>
          have PF : Hid (moveE es from_ to_ = (5, es)) := ME.out.trans (by rw [hg, hgp, hgq, hth]; rfl)
          have G := Lib.hid hg
          have GP := Lib.hid hgp
          have GQ := Lib.hid hgq
          have TH := Lib.hid hth
          clear hg hgp hgq hth hno
          go_enter Tryd.func12, Tryd.ntmps12
          go_wp2_with (first
            | (go_at_call 9; (with_reducible refine (C1.out _ (((Below.refl _ _).alloc (Nat.le_refl _) _).alloc (by simp) _)).mono ?_); rintro x w1 ⟨rfl, hb1⟩; rw [G.out]; have K1 := ((Bk.new w _ _).alloc _).after hb1; have K2 := (Bk.new1 w _ _ _).after hb1; have hb01 := B0.trans (hb1.mono (by simp; omega)); have k1 := K1.cell; have k2 := K2.cell; have f2 := K2.free)
            | (go_at_call 40; (with_reducible refine (C2.out from_ hfrom _ hb01).mono ?_); rintro x w2 ⟨rfl, hb2⟩; rw [GP.out]; clear k1 k2 f2; have K3 := K1.after hb2; have K4 := K2.after hb2; have hb02 := hb01.trans (hb2.mono hb01.size); have k1 := K3.cell; have k2 := K4.cell; have f2 := K4.free)
            | (go_at_call 40; (with_reducible refine (C2.out to_ hto _ hb02).mono ?_); rintro x w3 ⟨rfl, hb3⟩; rw [GQ.out]; clear k1 k2 f2; have K5 := K3.after hb3; have K6 := K4.after hb3; have hb03 := hb02.trans (hb3.mono hb02.size); have k1 := K5.cell; have k2 := K6.cell; have f2 := K6.free)
            | (go_at_call 41; (with_reducible refine (C3.out hsrt _ hb03).mono ?_); rintro x w4 ⟨rfl, hb4⟩; rw [TH.out]; clear k1 k2 f2; have K7 := K5.after hb4; have K8 := K6.after hb4; have hb04 := hb03.trans (hb4.mono hb03.size); have k1 := K7.cell; have k2 := K8.cell; have f2 := K8.free))
          refine bodyPost_ret (v := .tuple #[.agg #[.slice A es.length c], .int .i64 5]) (by simp [results, Tryd.results12, go_sem, k2]) rfl ⟨_, by rw [PF.out], ?_, ?_⟩
          · rw [PF.out]; exact (HT.out.below hb04).set1 K8 _
          · exact hb04.setCell (Nat.le_add_right _ 1) _
        | true =>
          obtain ⟨e0, he0, _, hlt⟩ := there_some hsrt hth
          obtain ⟨b, o, rfl, hq⟩ := HC.out (by omega)
          obtain ⟨u0, c0, c1, c2, hub⟩ := hq _ e0 he0
          have J1 := Lib.hid c1
          have hda : dirAt es from_ = e0.dir := by rw [dirAt, hth, atA, he0]; rfl
          clear hq c0 c1 c2 hub
          cases hd : e0.dir with
          | true =>
            have PF : Hid (moveE es from_ to_ = (7, es)) := ME.out.trans (by rw [hg, hgp, hgq, hth, hda, hd]; rfl)
            have J2 : Hid (w.cell? ⟨b, o + ahead es from_ * 3 + 1, none⟩ = some (.bool true)) := by rw [← hd]; exact J1.out
            have G := Lib.hid hg
            have GP := Lib.hid hgp
            have GQ := Lib.hid hgq
            have TH := Lib.hid hth
            clear hg hgp hgq hth hno he0 hda hd
            go_enter Tryd.func12, Tryd.ntmps12
            go_wp2_with (first
              | (go_at_call 9; (with_reducible refine (C1.out _ (((Below.refl _ _).alloc (Nat.le_refl _) _).alloc (by simp) _)).mono ?_); rintro x w1 ⟨rfl, hb1⟩; rw [G.out]; have K1 := ((Bk.new w _ _).alloc _).after hb1; have K2 := (Bk.new1 w _ _ _).after hb1; have hb01 := B0.trans (hb1.mono (by simp; omega)); have k1 := K1.cell; have k2 := K2.cell; have f2 := K2.free)
              | (go_at_call 40; (with_reducible refine (C2.out from_ hfrom _ hb01).mono ?_); rintro x w2 ⟨rfl, hb2⟩; rw [GP.out]; clear k1 k2 f2; have K3 := K1.after hb2; have K4 := K2.after hb2; have hb02 := hb01.trans (hb2.mono hb01.size); have k1 := K3.cell; have k2 := K4.cell; have f2 := K4.free)
              | (go_at_call 40; (with_reducible refine (C2.out to_ hto _ hb02).mono ?_); rintro x w3 ⟨rfl, hb3⟩; rw [GQ.out]; clear k1 k2 f2; have K5 := K3.after hb3; have K6 := K4.after hb3; have hb03 := hb02.trans (hb3.mono hb02.size); have k1 := K5.cell; have k2 := K6.cell; have f2 := K6.free)
              | (go_at_call 41; (with_reducible refine (C3.out hsrt _ hb03).mono ?_); rintro x w4 ⟨rfl, hb4⟩; rw [TH.out]; clear k1 k2 f2; have K7 := K5.after hb4; have K8 := K6.after hb4; have hb04 := hb03.trans (hb4.mono hb03.size); have k1 := K7.cell; have k2 := K8.cell; have f2 := K8.free; have j1 := cell_below hb04 J2.out))
            refine bodyPost_ret (v := .tuple #[.agg #[.slice (some ⟨b, o, none⟩) es.length c], .int .i64 7]) (by simp [results, Tryd.results12, go_sem, k2]) rfl ⟨_, by rw [PF.out], ?_, ?_⟩
            · rw [PF.out]; exact (HT.out.below hb04).set1 K8 _
            · exact hb04.setCell (Nat.le_add_right _ 1) _
          | false =>
            have hft : (from_.toList == to_.toList) = true := by
              rw [hg, hgp, hgq, hth, hda, hd] at hno
              simpa using hno
            have PF : Hid (moveE es from_ to_ = (0, es)) := ME.out.trans (by rw [hg, hgp, hgq, hth, hda, hd, hft]; rfl)
            have J2 : Hid (w.cell? ⟨b, o + ahead es from_ * 3 + 1, none⟩ = some (.bool false)) := by rw [← hd]; exact J1.out
            have G := Lib.hid hg
            have GP := Lib.hid hgp
            have GQ := Lib.hid hgq
            have TH := Lib.hid hth
            clear hg hgp hgq hth hno he0 hda hd
            go_enter Tryd.func12, Tryd.ntmps12
            go_wp2_with (first
              | (go_at_call 9; (with_reducible refine (C1.out _ (((Below.refl _ _).alloc (Nat.le_refl _) _).alloc (by simp) _)).mono ?_); rintro x w1 ⟨rfl, hb1⟩; rw [G.out]; have K1 := ((Bk.new w _ _).alloc _).after hb1; have K2 := (Bk.new1 w _ _ _).after hb1; have hb01 := B0.trans (hb1.mono (by simp; omega)); have k1 := K1.cell; have k2 := K2.cell; have f2 := K2.free)
              | (go_at_call 40; (with_reducible refine (C2.out from_ hfrom _ hb01).mono ?_); rintro x w2 ⟨rfl, hb2⟩; rw [GP.out]; clear k1 k2 f2; have K3 := K1.after hb2; have K4 := K2.after hb2; have hb02 := hb01.trans (hb2.mono hb01.size); have k1 := K3.cell; have k2 := K4.cell; have f2 := K4.free)
              | (go_at_call 40; (with_reducible refine (C2.out to_ hto _ hb02).mono ?_); rintro x w3 ⟨rfl, hb3⟩; rw [GQ.out]; clear k1 k2 f2; have K5 := K3.after hb3; have K6 := K4.after hb3; have hb03 := hb02.trans (hb3.mono hb02.size); have k1 := K5.cell; have k2 := K6.cell; have f2 := K6.free)
              | (go_at_call 41; (with_reducible refine (C3.out hsrt _ hb03).mono ?_); rintro x w4 ⟨rfl, hb4⟩; rw [TH.out]; clear k1 k2 f2; have K7 := K5.after hb4; have K8 := K6.after hb4; have hb04 := hb03.trans (hb4.mono hb03.size); have k1 := K7.cell; have k2 := K8.cell; have f2 := K8.free; have j1 := cell_below hb04 J2.out))
            refine bodyPost_ret (v := .tuple #[.agg #[.slice (some ⟨b, o, none⟩) es.length c], .int .i64 0]) (by simp [results, Tryd.results12, go_sem, k2]) rfl ⟨_, by rw [PF.out], ?_, ?_⟩
            · rw [PF.out]; exact (HT.out.below hb04).set1 K8 _
            · exact hb04.setCell (Nat.le_add_right _ 1) _
end Go.Proofs.YtpfmenepgejgdaaDoor
