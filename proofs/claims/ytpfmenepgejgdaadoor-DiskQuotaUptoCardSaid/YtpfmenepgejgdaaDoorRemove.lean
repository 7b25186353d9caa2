/-
  tree.Remove. Own work.
-/
import Derived.Test.YtpfmenepgejgdaaDoorKids
import Derived.Test.YtpfmenepgejgdaaDoorMove2
namespace Go.Proofs.YtpfmenepgejgdaaDoor
open Go.RowKit

def removeE (es : List Ent) (p : ByteArray) : Int × List Ent := if findE es p = 0 then (if 0 < (kidsE es p).length then (8, es) else (0, erE es p)) else (findE es p, es)
theorem findE_there {es : List Ent} {p : ByteArray} (h : findE es p = 0) : goodT es = true ∧ there es p = true := by
  unfold findE at h
  cases hg : goodT es
  · rw [hg] at h; simp at h
  · rw [hg] at h
    cases hp : gpB p
    · rw [hp] at h; simp at h
    · rw [hp] at h
      cases ht : there es p
      · rw [ht] at h; simp at h
      · exact ⟨rfl, rfl⟩

set_option maxHeartbeats 1000000 in
theorem treeRemove_any (es : List Ent) (p : ByteArray) (v : Value) (m : Int) (w : World) (h : TreeV w v es) (hn : es.length ≤ 1048576) (hc : cnt es ≤ 1048576) (hz : ∀ e ∈ es, e.path.size ≤ 1048576) (hp : p.size ≤ 1048576) (hm : Mx m w) :
    Calls Tryd.prog 23 #[v, .string p] w (TPost (removeE es p) w) := by
  have HT := Lib.hid h
  have C1 := Lib.hid (fun w1 (hb : Below w.heap.size w w1) => treeFind_any es v p m w1 (h.below hb) hn hc hz hp (hm.below hb))
  have C2 := Lib.hid (fun w1 (hb : Below w.heap.size w w1) => kids_any es p v m w1 (h.below hb) hn hc hz (hm.below hb))
  obtain ⟨u, rfl, hu⟩ := id h
  have C3 := Lib.hid (fun (hs : Srt es) w1 (hb : Below w.heap.size w w1) => find_any es u p m w1 (hu.below hb) hn hz hp (hm.below hb) hs)
  have C4 := Lib.hid (fun w1 (hb : Below w.heap.size w w1) => cloneE_any es u w1 (hu.below hb) hn)
  obtain ⟨A, c, rfl, _⟩ := hu
  clear h hz
  have B0 := ((Below.refl w.heap.size w).alloc (Nat.le_refl _) (.cells #[.slice A es.length c] 25)).alloc (by simp) (.cells #[.slice none 0 0] 25)
  have PE : Hid (removeE es p = if findE es p = 0 then (if 0 < (kidsE es p).length then (8, es) else (0, erE es p)) else (findE es p, es)) := (rfl : removeE es p = if findE es p = 0 then (if 0 < (kidsE es p).length then (8, es) else (0, erE es p)) else (findE es p, es))
  by_cases h0 : findE es p = 0
  · obtain ⟨hg, hth⟩ := findE_there h0
    have hsrt := goodT_srt hg
    obtain ⟨e0, he0, _, hlt⟩ := there_some hsrt hth
    have F0 := Lib.hid h0
    have TH := Lib.hid hth
    obtain ⟨i, hi⟩ : ∃ i, i = ahead es p := ⟨_, rfl⟩
    rw [← hi] at hlt
    have HI := Lib.hid hi
    have HER : Hid (erE es p = es.take i ++ es.drop (i + 1)) := by
      have : erE es p = es.take i ++ es.drop (i + 1) := by rw [erE, hi]
      exact this
    have HL := Lib.hid (erE_len (es := es) (p := p) (by rw [← hi]; exact hlt))
    clear h0 hg hth he0 hi
    by_cases hk : 0 < (kidsE es p).length
    · have PF : Hid (removeE es p = (8, es)) := PE.out.trans (by rw [if_pos F0.out, if_pos hk])
      go_enter Tryd.func23, Tryd.ntmps23
      go_wp2_with (first
        | (go_at_call 11; (with_reducible refine (C1.out _ (((Below.refl _ _).alloc (Nat.le_refl _) _).alloc (by simp) _)).mono ?_); rintro x w1 ⟨v1, rfl, ⟨u1, rfl, A1, c1, rfl, _⟩, hb1⟩; rw [F0.out]; have K1 := ((((Bk.new w _ _).alloc _).after hb1).alloc (.cells #[.string (findV es p).path, .bool (findV es p).dir, .slice A1 (findV es p).b.length c1] 30)); have k1 := K1.cell; have K2 := ((Bk.new1 w _ _ _).after hb1).alloc (.cells #[.string (findV es p).path, .bool (findV es p).dir, .slice A1 (findV es p).b.length c1] 30); have hb01 := (B0.trans (hb1.mono (by simp; omega))).alloc (by have := hb1.size; simp at this; omega) (.cells #[.string (findV es p).path, .bool (findV es p).dir, .slice A1 (findV es p).b.length c1] 30))
        | (go_at_call 25; (with_reducible refine (C2.out _ hb01).mono ?_); rintro x w2 ⟨u2, rfl, ⟨A2, c2, rfl, _⟩, hb2⟩; clear k1; have k1 := (K1.after hb2).cell; have K3 := K2.after hb2; have k3 := K3.cell; have f3 := K3.free; have hb02 := hb01.trans (hb2.mono hb01.size))
        | fail)
      refine bodyPost_ret (v := .tuple #[.agg #[.slice A es.length c], .int .i64 8]) (by simp [results, Tryd.results23, go_sem, k3]) rfl ⟨_, by rw [PF.out], ?_, ?_⟩
      · rw [PF.out]; exact (HT.out.below hb02).set1 K3 _
      · exact hb02.setCell (Nat.le_add_right _ 1) _
    · have PF : Hid (removeE es p = (0, erE es p)) := PE.out.trans (by rw [if_pos F0.out, if_neg hk])
      have hk0 : (kidsE es p).length = 0 := by omega
      go_enter Tryd.func23, Tryd.ntmps23
      go_wp2_with (first
        | (go_at_call 11; (with_reducible refine (C1.out _ (((Below.refl _ _).alloc (Nat.le_refl _) _).alloc (by simp) _)).mono ?_); rintro x w1 ⟨v1, rfl, ⟨u1, rfl, A1, c1, rfl, _⟩, hb1⟩; rw [F0.out]; have K1 := ((((Bk.new w _ _).alloc _).after hb1).alloc (.cells #[.string (findV es p).path, .bool (findV es p).dir, .slice A1 (findV es p).b.length c1] 30)); have k1 := K1.cell; have K2 := ((Bk.new1 w _ _ _).after hb1).alloc (.cells #[.string (findV es p).path, .bool (findV es p).dir, .slice A1 (findV es p).b.length c1] 30); have hb01 := (B0.trans (hb1.mono (by simp; omega))).alloc (by have := hb1.size; simp at this; omega) (.cells #[.string (findV es p).path, .bool (findV es p).dir, .slice A1 (findV es p).b.length c1] 30))
        | (go_at_call 25; (with_reducible refine (C2.out _ hb01).mono ?_); rintro x w2 ⟨u2, rfl, ⟨A2, c2, rfl, _⟩, hb2⟩; clear k1; have L1 := K1.after hb2; have k1 := L1.cell; have L2 := K2.after hb2; have hb02 := hb01.trans (hb2.mono hb01.size))
        | (go_at_call 41; (with_reducible refine (C3.out hsrt _ hb02).mono ?_); rintro x w3 ⟨rfl, hb3⟩; rw [TH.out, ← HI.out]; clear k1; have M1 := L1.after hb3; have k1 := M1.cell; have M2 := L2.after hb3; have hb03 := hb02.trans (hb3.mono hb02.size))
        | (go_at_call 45; (with_reducible refine (C4.out _ hb03).mono ?_); rintro x w4 ⟨v4, rfl, ⟨cs, hown, hcs⟩, hb4⟩; have HO := Lib.hid hown; have HCS := Lib.hid hcs; have HC4 := Lib.hid (hcs.below hb4); clear hown hcs k1; have N2 := M2.after hb4; have hb04 := hb03.trans (hb4.mono hb03.size))
        | (go_at_call 44; (with_reducible refine (deleteE_any w3.heap.size es.length i cs v4 _ HO.out hlt (by omega) HC4.out.cell1).mono ?_); rintro x w5 ⟨v5, rfl, hown5, hb5, hg5⟩; have HO5 := Lib.hid hown5; obtain ⟨A5, c5, rfl, hj5⟩ := own_form hown5; clear hown5 hj5; have P2 := N2.grown hg5 (fun e => by have h1 := (HO.out.lt _ e.symm).1; have h2 := hb3.size; have h3 := hb2.size; have h4 := hb1.size; simp at h3 h4; omega); have p2 := P2.cell; have f2 := P2.free; have hb05 := hb04.trans (hb5.mono hb03.size))
        | fail)
      have hb5w : Below w.heap.size w w5 := hb03.trans ((hb4.trans hb5).mono hb03.size)
      have HE5 : Ents w5 (.slice A5 (es.length - 1) c5) (erE es p) := by
        have h1 := HO5.out
        rw [← HL.out] at h1 ⊢
        refine ents_of_own h1 ?_
        rw [HER.out]
        exact (HCS.out.below (hb4.trans hb5)).erase hlt
      refine bodyPost_ret (v := .tuple #[.agg #[.slice A5 (es.length - 1) c5], .int .i64 0]) (by simp [results, Tryd.results23, go_sem, p2]) rfl ⟨_, by rw [PF.out], ?_, ?_⟩
      · rw [PF.out]; exact ⟨_, rfl, HE5.set1 P2 _⟩
      · exact hb5w.setCell (Nat.le_add_right _ 1) _
  · obtain ⟨q, hq⟩ : ∃ q, q = findE es p := ⟨_, rfl⟩
    have PF : Hid (removeE es p = (q, es)) := PE.out.trans (by rw [if_neg h0, hq])
    rw [← hq] at h0
    have HQ := Lib.hid hq
    clear hq
    go_enter Tryd.func23, Tryd.ntmps23
    go_wp2_with (go_at_call 11; (with_reducible refine (C1.out _ (((Below.refl _ _).alloc (Nat.le_refl _) _).alloc (by simp) _)).mono ?_); rintro x w1 ⟨v1, rfl, ⟨u1, rfl, A1, c1, rfl, _⟩, hb1⟩; rw [← HQ.out]; have k1 := ((((Bk.new w _ _).alloc _).after hb1).alloc (.cells #[.string (findV es p).path, .bool (findV es p).dir, .slice A1 (findV es p).b.length c1] 30)).cell; have K2 := ((Bk.new1 w _ _ _).after hb1).alloc (.cells #[.string (findV es p).path, .bool (findV es p).dir, .slice A1 (findV es p).b.length c1] 30); have k2 := K2.cell; have f2 := K2.free)
    have hb01 := (B0.trans (hb1.mono (by simp; omega))).alloc (by have := hb1.size; simp at this; omega) (.cells #[.string (findV es p).path, .bool (findV es p).dir, .slice A1 (findV es p).b.length c1] 30)
    refine bodyPost_ret (v := .tuple #[.agg #[.slice A es.length c], .int .i64 q]) (by simp [results, Tryd.results23, go_sem, k2]) rfl ⟨_, by rw [PF.out], ?_, ?_⟩
    · rw [PF.out]; exact (HT.out.below hb01).set1 K2 _
    · exact hb01.setCell (Nat.le_add_right _ 1) _
end Go.Proofs.YtpfmenepgejgdaaDoor
