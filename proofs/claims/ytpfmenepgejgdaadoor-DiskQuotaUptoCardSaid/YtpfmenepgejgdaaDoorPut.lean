/-
  THE PACKAGE tree: Put, Make. Own work.
-/
import Derived.Test.YtpfmenepgejgdaaDoorWith3
namespace Go.Proofs.YtpfmenepgejgdaaDoor
open Go.RowKit

/-- A tree and an error. -/
def TPost (r : Int × List Ent) (w : World) (x : Ending) (w' : World) : Prop :=
  ∃ v', x = .returned (.tuple #[v', .int .i64 r.1]) ∧ TreeV w' v' r.2 ∧ Below w.heap.size w w'
theorem tpost_form {w : World} {v : Value} {es : List Ent} (h : TreeV w v es) : ∃ A c, v = .agg #[.slice A es.length c] := by
  obtain ⟨u, rfl, A, c, rfl, _⟩ := h
  exact ⟨A, c, rfl⟩
theorem TreeV.set1 {w : World} {v : Value} {es : List Ent} {g : Nat} {t : TypeId} {A : Option Addr} {n c : Nat} (h : TreeV w v es) (B : Bk w g t #[.slice A n c]) (x : Value) : TreeV (w.setCell ⟨g, 0, none⟩ x) v es := by
  obtain ⟨u, rfl, hu⟩ := h
  exact ⟨u, rfl, hu.set1 B x⟩

def putE (es : List Ent) (p : ByteArray) (b : List UInt8) : Int × List Ent := if goodT es then (if gpB p then withE es ⟨p, false, b⟩ else (4, es)) else (1, es)
set_option maxHeartbeats 1000000 in
theorem treePut_any (es : List Ent) (p : ByteArray) (bs : List UInt8) (v bv : Value) (m : Int) (w : World) (h : TreeV w v es) (hb : Byt w bv bs) (hn : es.length ≤ 1000000) (hc : cnt es ≤ 1000000) (hb40 : bs.length ≤ 40000) (hz : ∀ e ∈ es, e.path.size ≤ 1048576) (hp : p.size ≤ 1048576) (hm : Mx m w) :
    Calls Tryd.prog 22 #[v, .string p, bv] w (TPost (putE es p bs) w) := by
  have HT := Lib.hid h
  have C1 := Lib.hid (fun w1 (hb : Below w.heap.size w w1) => treeGood_any es v m w1 (h.below hb) (by omega) (by omega) hz (hm.below hb))
  have C2 := Lib.hid (fun w1 (hb : Below w.heap.size w w1) => good_any p m w1 hp (hm.below hb))
  have C3 := Lib.hid (fun (hs : Srt es) w1 (hb1 : Below w.heap.size w w1) => with_any es ⟨p, false, bs⟩ v (.agg #[.string p, .bool false, bv]) m w1 (h.below hb1) ⟨bv, rfl, hb.below hb1⟩ hn hc hb40 hz hp (hm.below hb1) hs)
  obtain ⟨A, c, rfl⟩ := tpost_form h
  obtain ⟨A2, c2, rfl, _⟩ := hb
  clear h hz
  have B0 := ((Below.refl w.heap.size w).alloc (Nat.le_refl _) (.cells #[.slice A es.length c] 25)).alloc (by simp) (.cells #[.slice none 0 0] 25)
  have PE : Hid (putE es p bs = if goodT es then (if gpB p then withE es ⟨p, false, bs⟩ else (4, es)) else (1, es)) := (rfl : putE es p bs = if goodT es then (if gpB p then withE es ⟨p, false, bs⟩ else (4, es)) else (1, es))
  cases hg : goodT es with
  | false =>
    have PF : Hid (putE es p bs = (1, es)) := PE.out.trans (by rw [hg]; rfl)
    have G := Lib.hid hg
    clear hg
    go_enter Tryd.func22, Tryd.ntmps22
    go_wp2_with (go_at_call 9; (with_reducible refine (C1.out _ (((Below.refl _ _).alloc (Nat.le_refl _) _).alloc (by simp) _)).mono ?_); rintro x w1 ⟨rfl, hb1⟩; rw [G.out]; have k1 := (((Bk.new w _ _).alloc _).after hb1).cell; have K2 := (Bk.new1 w _ _ _).after hb1; have k2 := K2.cell; have f2 := K2.free)
    have hb01 := B0.trans (hb1.mono (by simp; omega))
    refine bodyPost_ret (v := .tuple #[.agg #[.slice A es.length c], .int .i64 1]) (by simp [results, Tryd.results22, go_sem, k2]) rfl ⟨_, by rw [PF.out], ?_, ?_⟩
    · rw [PF.out]; exact (HT.out.below hb01).set1 K2 _
    · exact hb01.setCell (Nat.le_add_right _ 1) _
  | true =>
    have hsrt := goodT_srt hg
    cases hgp : gpB p with
    | false =>
      have PF : Hid (putE es p bs = (4, es)) := PE.out.trans (by rw [hg, hgp]; rfl)
      have G := Lib.hid hg
      have GP := Lib.hid hgp
      clear hg hgp
      go_enter Tryd.func22, Tryd.ntmps22
      go_wp2_with (first
        | (go_at_call 9; (with_reducible refine (C1.out _ (((Below.refl _ _).alloc (Nat.le_refl _) _).alloc (by simp) _)).mono ?_); rintro x w1 ⟨rfl, hb1⟩; rw [G.out]; have K1 := ((Bk.new w _ _).alloc _).after hb1; have K2 := (Bk.new1 w _ _ _).after hb1; have hb01 := B0.trans (hb1.mono (by simp; omega)))
        | (go_at_call 40; (with_reducible refine (C2.out _ hb01).mono ?_); rintro x w2 ⟨rfl, hb2⟩; rw [GP.out]; have K3 := K2.after hb2; have k1 := (K1.after hb2).cell; have k3 := K3.cell; have f3 := K3.free; have hb02 := hb01.trans (hb2.mono hb01.size)))
      refine bodyPost_ret (v := .tuple #[.agg #[.slice A es.length c], .int .i64 4]) (by simp [results, Tryd.results22, go_sem, k3]) rfl ⟨_, by rw [PF.out], ?_, ?_⟩
      · rw [PF.out]; exact (HT.out.below hb02).set1 K3 _
      · exact hb02.setCell (Nat.le_add_right _ 1) _
    | true =>
      have PF : Hid (putE es p bs = withE es ⟨p, false, bs⟩) := PE.out.trans (by rw [hg, hgp]; rfl)
      have G := Lib.hid hg
      have GP := Lib.hid hgp
      clear hg hgp
      go_enter Tryd.func22, Tryd.ntmps22
      go_wp2_with (first
        | (go_at_call 9; (with_reducible refine (C1.out _ (((Below.refl _ _).alloc (Nat.le_refl _) _).alloc (by simp) _)).mono ?_); rintro x w1 ⟨rfl, hb1⟩; rw [G.out]; have K1 := ((Bk.new w _ _).alloc _).after hb1; have K2 := (Bk.new1 w _ _ _).after hb1; have hb01 := B0.trans (hb1.mono (by simp; omega)))
        | (go_at_call 40; (with_reducible refine (C2.out _ hb01).mono ?_); rintro x w2 ⟨rfl, hb2⟩; rw [GP.out]; have K3 := K2.after hb2; have k1 := (K1.after hb2).cell; have hb02 := hb01.trans (hb2.mono hb01.size))
        | (go_at_call 43; (with_reducible refine (C3.out hsrt _ hb02).mono ?_); rintro x w3 ⟨v', rfl, ht3, hb3⟩; have T3 := Lib.hid ht3; obtain ⟨A3, c3, rfl⟩ := tpost_form ht3; clear ht3 k1; have K4 := K3.after hb3; have k4 := K4.cell; have f4 := K4.free; have hb03 := hb02.trans (hb3.mono hb02.size)))
      refine bodyPost_ret (v := .tuple #[.agg #[.slice A3 (withE es ⟨p, false, bs⟩).2.length c3], .int .i64 (withE es ⟨p, false, bs⟩).1]) (by simp [results, Tryd.results22, go_sem, k4]) rfl ⟨_, by rw [PF.out], ?_, ?_⟩
      · rw [PF.out]; exact T3.out.set1 K4 _
      · exact hb03.setCell (Nat.le_add_right _ 1) _

def makeE (es : List Ent) (p : ByteArray) : Int × List Ent := if findE es p = 0 then (6, es) else if findE es p = 5 then withE es ⟨p, true, []⟩ else (findE es p, es)
theorem findE_srt {es : List Ent} {p : ByteArray} (h : ¬ findE es p = 1) : Srt es := by
  cases hg : goodT es with
  | false => exact absurd (by rw [findE, hg]; rfl) h
  | true => exact goodT_srt hg
set_option maxHeartbeats 1000000 in
theorem treeMake_any (es : List Ent) (p : ByteArray) (v : Value) (m : Int) (w : World) (h : TreeV w v es) (hn : es.length ≤ 1000000) (hc : cnt es ≤ 1000000) (hz : ∀ e ∈ es, e.path.size ≤ 1048576) (hp : p.size ≤ 1048576) (hm : Mx m w) :
    Calls Tryd.prog 16 #[v, .string p] w (TPost (makeE es p) w) := by
  have HT := Lib.hid h
  have C1 := Lib.hid (fun w1 (hb : Below w.heap.size w w1) => treeFind_any es v p m w1 (h.below hb) (by omega) (by omega) hz hp (hm.below hb))
  have C3 := Lib.hid (fun (hs : Srt es) w1 (hb1 : Below w.heap.size w w1) => with_any es ⟨p, true, []⟩ v (.agg #[.string p, .bool true, .slice none 0 0]) m w1 (h.below hb1) ⟨_, rfl, Byt.nil _⟩ hn hc (by simp) hz hp (hm.below hb1) hs)
  obtain ⟨A, c, rfl⟩ := tpost_form h
  clear h hz
  have B0 := ((Below.refl w.heap.size w).alloc (Nat.le_refl _) (.cells #[.slice A es.length c] 25)).alloc (by simp) (.cells #[.slice none 0 0] 25)
  have PE : Hid (makeE es p = if findE es p = 0 then (6, es) else if findE es p = 5 then withE es ⟨p, true, []⟩ else (findE es p, es)) := (rfl : makeE es p = if findE es p = 0 then (6, es) else if findE es p = 5 then withE es ⟨p, true, []⟩ else (findE es p, es))
  by_cases h0 : findE es p = 0
  · have PF : Hid (makeE es p = (6, es)) := PE.out.trans (by rw [if_pos h0])
    have F0 := Lib.hid h0
    clear h0
    go_enter Tryd.func16, Tryd.ntmps16
    go_wp2_with (go_at_call 11; (with_reducible refine (C1.out _ (((Below.refl _ _).alloc (Nat.le_refl _) _).alloc (by simp) _)).mono ?_); rintro x w1 ⟨v1, rfl, ⟨u1, rfl, hu1⟩, hb1⟩; obtain ⟨A1, c1, rfl, _⟩ := hu1; rw [F0.out]; have k1 := ((((Bk.new w _ _).alloc _).after hb1).alloc (.cells #[.string (findV es p).path, .bool (findV es p).dir, .slice A1 (findV es p).b.length c1] 30)).cell; have K2 := ((Bk.new1 w _ _ _).after hb1).alloc (.cells #[.string (findV es p).path, .bool (findV es p).dir, .slice A1 (findV es p).b.length c1] 30); have k2 := K2.cell; have f2 := K2.free)
    have hb01 := (B0.trans (hb1.mono (by simp; omega))).alloc (by have := hb1.size; simp at this; omega) (.cells #[.string (findV es p).path, .bool (findV es p).dir, .slice A1 (findV es p).b.length c1] 30)
    refine bodyPost_ret (v := .tuple #[.agg #[.slice A es.length c], .int .i64 6]) (by simp [results, Tryd.results16, go_sem, k2]) rfl ⟨_, by rw [PF.out], ?_, ?_⟩
    · rw [PF.out]; exact (HT.out.below hb01).set1 K2 _
    · exact hb01.setCell (Nat.le_add_right _ 1) _
  · by_cases h5 : findE es p = 5
    · have PF : Hid (makeE es p = withE es ⟨p, true, []⟩) := PE.out.trans (by rw [if_neg h0, if_pos h5])
      have F5 := Lib.hid h5
      clear h0 h5
      go_enter Tryd.func16, Tryd.ntmps16
      go_wp2_with (first
      | (go_at_call 11; (with_reducible refine (C1.out _ (((Below.refl _ _).alloc (Nat.le_refl _) _).alloc (by simp) _)).mono ?_); rintro x w1 ⟨v1, rfl, ⟨u1, rfl, hu1⟩, hb1⟩; obtain ⟨A1, c1, rfl, _⟩ := hu1; have k1 := ((((Bk.new w _ _).alloc _).after hb1).alloc (.cells #[.string (findV es p).path, .bool (findV es p).dir, .slice A1 (findV es p).b.length c1] 30)).cell; have K2 := ((Bk.new1 w _ _ _).after hb1).alloc (.cells #[.string (findV es p).path, .bool (findV es p).dir, .slice A1 (findV es p).b.length c1] 30); have k2 := K2.cell; have f2 := K2.free; have hb01 := (B0.trans (hb1.mono (by simp; omega))).alloc (by have := hb1.size; simp at this; omega) (.cells #[.string (findV es p).path, .bool (findV es p).dir, .slice A1 (findV es p).b.length c1] 30); clear f2 k2; rw [F5.out])
      | (go_at_call 43; (with_reducible refine (C3.out (findE_srt (by rw [F5.out]; decide)) _ hb01).mono ?_); rintro x w3 ⟨v', rfl, ht3, hb3⟩; have T3 := Lib.hid ht3; obtain ⟨A3, c3, rfl⟩ := tpost_form ht3; clear ht3 k1; have K4 := K2.after hb3; have k4 := K4.cell; have f4 := K4.free; have hb03 := hb01.trans (hb3.mono hb01.size)))
      refine bodyPost_ret (v := .tuple #[.agg #[.slice A3 (withE es ⟨p, true, []⟩).2.length c3], .int .i64 (withE es ⟨p, true, []⟩).1]) (by simp [results, Tryd.results16, go_sem, k4]) rfl ⟨_, by rw [PF.out], ?_, ?_⟩
      · rw [PF.out]; exact T3.out.set1 K4 _
      · exact hb03.setCell (Nat.le_add_right _ 1) _
    · have PF : Hid (makeE es p = (findE es p, es)) := PE.out.trans (by rw [if_neg h0, if_neg h5])
      obtain ⟨q, hq⟩ : ∃ q, q = findE es p := ⟨_, rfl⟩
      rw [← hq] at h0 h5
      have HQ := Lib.hid hq
      clear hq
      go_enter Tryd.func16, Tryd.ntmps16
      go_wp2_with (go_at_call 11; (with_reducible refine (C1.out _ (((Below.refl _ _).alloc (Nat.le_refl _) _).alloc (by simp) _)).mono ?_); rintro x w1 ⟨v1, rfl, ⟨u1, rfl, hu1⟩, hb1⟩; obtain ⟨A1, c1, rfl, _⟩ := hu1; have k1 := ((((Bk.new w _ _).alloc _).after hb1).alloc (.cells #[.string (findV es p).path, .bool (findV es p).dir, .slice A1 (findV es p).b.length c1] 30)).cell; have K2 := ((Bk.new1 w _ _ _).after hb1).alloc (.cells #[.string (findV es p).path, .bool (findV es p).dir, .slice A1 (findV es p).b.length c1] 30); have k2 := K2.cell; have f2 := K2.free; rw [← HQ.out])
      have hb01 := (B0.trans (hb1.mono (by simp; omega))).alloc (by have := hb1.size; simp at this; omega) (.cells #[.string (findV es p).path, .bool (findV es p).dir, .slice A1 (findV es p).b.length c1] 30)
      refine bodyPost_ret (v := .tuple #[.agg #[.slice A es.length c], .int .i64 q]) (by simp [results, Tryd.results16, go_sem, k2]) rfl ⟨_, by rw [PF.out, HQ.out], ?_, ?_⟩
      · rw [PF.out]; exact (HT.out.below hb01).set1 K2 _
      · exact hb01.setCell (Nat.le_add_right _ 1) _
end Go.Proofs.YtpfmenepgejgdaaDoor
