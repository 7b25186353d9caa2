/-
  THE PACKAGE tree: Find. Own work.
-/
import Derived.Test.YtpfmenepgejgdaaDoorSame
namespace Go.Proofs.YtpfmenepgejgdaaDoor
open Go.RowKit

theorem goodFrom_srt : ∀ (l : List Ent) (f : Pl.Bs → Bool) (x : Ent), goodFrom f (some x) l = true → (∀ e ∈ l, Pl.pc (bd x.path) (bd e.path) < 0) ∧ Srt l
  | [], _, _, _ => ⟨fun e h => (by cases h), .nil⟩
  | e :: r, f, x, h => by
    rw [goodFrom_cons, stepOk_eq] at h
    simp only [Bool.and_eq_true] at h
    have h1 : Pl.pc (bd x.path) (bd e.path) < 0 := by simpa [ahd] using h.1.2
    obtain ⟨h2, h3⟩ := goodFrom_srt r _ e h.2
    refine ⟨fun y hy => ?_, List.pairwise_cons.2 ⟨h2, h3⟩⟩
    rcases List.mem_cons.1 hy with rfl | hy
    · exact h1
    · exact Pl.pc_trans h1 (h2 y hy)
theorem goodT_srt {es : List Ent} (h : goodT es = true) : Srt es := by
  rw [goodT] at h
  simp only [Bool.and_eq_true] at h
  match es, h.2 with
  | [], _ => exact .nil
  | e :: r, h2 =>
    rw [goodFrom_cons] at h2
    simp only [Bool.and_eq_true] at h2
    obtain ⟨h3, h4⟩ := goodFrom_srt r _ e h2.2
    exact List.pairwise_cons.2 ⟨h3, h4⟩
theorem goodT_len {es : List Ent} (h : goodT es = true) : es.length ≤ 40 ∧ cnt es ≤ 16384 := by
  rw [goodT] at h
  simp only [Bool.and_eq_true, decide_eq_true_eq] at h
  exact h.1
theorem cnt_mem {es : List Ent} {e : Ent} (h : e ∈ es) : e.b.length ≤ cnt es := by
  induction es with
  | nil => cases h
  | cons x r ih =>
    have : cnt (x :: r) = x.b.length + cnt r := by simp [cnt]
    rcases List.mem_cons.1 h with rfl | h
    · omega
    · have := ih h; omega

def findE (es : List Ent) (p : ByteArray) : Int := if goodT es then (if gpB p then (if there es p then 0 else 5) else 4) else 1
def noEnt : Ent := ⟨⟨#[]⟩, false, []⟩
def findV (es : List Ent) (p : ByteArray) : Ent := if goodT es && (gpB p && there es p) then (atA es p).getD noEnt else noEnt

theorem Byt.set3 {w : World} {v : Value} {bs : List UInt8} {g : Nat} {t : TypeId} {x0 x1 x2 : Value} (h : Byt w v bs) (B : Bk w g t #[x0, x1, x2]) (hn : ∀ u ∈ #[x0, x1, x2], ∀ x : Int, u ≠ .int .u8 x) (p : ByteArray) (d : Bool) (A : Option Addr) (n c : Nat) :
    Byt (((w.setCell ⟨g, 0, none⟩ (.string p)).setCell ⟨g, 1, none⟩ (.bool d)).setCell ⟨g, 2, none⟩ (.slice A n c)) v bs := by
  have h0 := hn x0 (by simp)
  have h1 := hn x1 (by simp)
  have h2 := hn x2 (by simp)
  refine ((h.set B hn 0 _).set (B.set 0 _) ?_ 1 _).set ((B.set 0 _).set 1 _) ?_ 2 _
  · intro u hu x
    simp at hu
    rcases hu with rfl | rfl | rfl
    · simp
    · exact h1 x
    · exact h2 x
  · intro u hu x
    simp at hu
    rcases hu with rfl | rfl | rfl
    · simp
    · simp
    · exact h2 x
theorem below_set3 {B : Nat} {a w : World} (h : Below B a w) {g : Nat} (hg : B ≤ g) (u0 u1 u2 : Value) :
    Below B a (((w.setCell ⟨g, 0, none⟩ u0).setCell ⟨g, 1, none⟩ u1).setCell ⟨g, 2, none⟩ u2) := ((h.setCell hg _).setCell hg _).setCell hg _

def FindPost (es : List Ent) (p : ByteArray) (w : World) (x : Ending) (w' : World) : Prop :=
  ∃ v', x = .returned (.tuple #[v', .int .i64 (findE es p)]) ∧ EntV w' v' (findV es p) ∧ Below w.heap.size w w'
set_option maxHeartbeats 1000000 in
theorem treeFind_any (es : List Ent) (v : Value) (p : ByteArray) (m : Int) (w : World) (h : TreeV w v es) (hn : es.length ≤ 1048576) (hc : cnt es ≤ 1048576) (hz : ∀ e ∈ es, e.path.size ≤ 1048576) (hp : p.size ≤ 1048576) (hm : Mx m w) :
    Calls Tryd.prog 11 #[v, .string p] w (FindPost es p w) := by
  have C1 := Lib.hid (fun w1 (hb : Below w.heap.size w w1) => treeGood_any es v m w1 (h.below hb) hn hc hz (hm.below hb))
  have C2 := Lib.hid (fun w1 (hb : Below w.heap.size w w1) => good_any p m w1 hp (hm.below hb))
  obtain ⟨u, rfl, hu⟩ := h
  have C3 := Lib.hid (fun (hs : Srt es) w1 (hb : Below w.heap.size w w1) => find_any es u p m w1 (hu.below hb) hn hz hp (hm.below hb) hs)
  have HU := Lib.hid hu
  obtain ⟨A, c, rfl, _, _, hcell⟩ := hu
  have HC := Lib.hid hcell
  clear hcell hz
  have B0 := ((Below.refl w.heap.size w).alloc (Nat.le_refl _) (.cells #[.slice A es.length c] 25)).alloc (by simp) (.cells #[.string ⟨#[]⟩, .bool false, .slice none 0 0] 30)
  cases hg : goodT es with
  | false =>
    have FE : Hid (findE es p = 1) := by
      have : findE es p = 1 := by rw [findE, hg]; rfl
      exact this
    have FV : Hid (findV es p = noEnt) := by
      have : findV es p = noEnt := by rw [findV, hg]; rfl
      exact this
    have G := Lib.hid hg
    clear hg
    go_enter Tryd.func11, Tryd.ntmps11
    go_wp2_with (go_at_call 9; (with_reducible refine (C1.out _ (((Below.refl _ _).alloc (Nat.le_refl _) _).alloc (by simp) _)).mono ?_); rintro x w1 ⟨rfl, hb1⟩; rw [G.out]; have k1 := (((Bk.new w _ _).alloc _).after hb1).cell; have K2 := (Bk.new1 w _ _ _).after hb1; have k2 := K2.cell; have f2 := K2.free)
    refine bodyPost_ret (v := .tuple #[.agg #[.string ⟨#[]⟩, .bool false, .slice none 0 0], .int .i64 1]) (by simp [results, Tryd.results11, go_sem, k2]) rfl ⟨_, by rw [FE.out], ?_, ?_⟩
    · rw [FV.out]; exact ⟨_, rfl, Byt.nil _⟩
    · exact below_set3 (B0.trans (hb1.mono (by simp; omega))) (by simp) _ _ _
  | true =>
    have hsrt := goodT_srt hg
    cases hgp : gpB p with
    | false =>
      have FE : Hid (findE es p = 4) := by
        have : findE es p = 4 := by rw [findE, hg, hgp]; rfl
        exact this
      have FV : Hid (findV es p = noEnt) := by
        have : findV es p = noEnt := by rw [findV, hg, hgp]; rfl
        exact this
      have G := Lib.hid hg
      have GP := Lib.hid hgp
      clear hg hgp
      go_enter Tryd.func11, Tryd.ntmps11
      go_wp2_with (first
        | (go_at_call 9; (with_reducible refine (C1.out _ (((Below.refl _ _).alloc (Nat.le_refl _) _).alloc (by simp) _)).mono ?_); rintro x w1 ⟨rfl, hb1⟩; rw [G.out]; have k1 := (((Bk.new w _ _).alloc _).after hb1).cell; have K2 := (Bk.new1 w _ _ _).after hb1; have k2 := K2.cell; have f2 := K2.free; have hb01 := B0.trans (hb1.mono (by simp; omega)))
        | (go_at_call 40; (with_reducible refine (C2.out _ hb01).mono ?_); rintro x w2 ⟨rfl, hb2⟩; rw [GP.out]; have K3 := K2.after hb2; have k3 := K3.cell; have f3 := K3.free; clear k2 f2; have hb02 := hb01.trans (hb2.mono hb01.size)))
      refine bodyPost_ret (v := .tuple #[.agg #[.string ⟨#[]⟩, .bool false, .slice none 0 0], .int .i64 4]) (by simp [results, Tryd.results11, go_sem, k3]) rfl ⟨_, by rw [FE.out], ?_, ?_⟩
      · rw [FV.out]; exact ⟨_, rfl, Byt.nil _⟩
      · exact below_set3 hb02 (by simp) _ _ _
    | true =>
      cases hth : there es p with
      | false =>
        have FE : Hid (findE es p = 5) := by
          have : findE es p = 5 := by rw [findE, hg, hgp, hth]; rfl
          exact this
        have FV : Hid (findV es p = noEnt) := by
          have : findV es p = noEnt := by rw [findV, hg, hgp, hth]; rfl
          exact this
        have G := Lib.hid hg
        have GP := Lib.hid hgp
        have TH := Lib.hid hth
        clear hg hgp hth
        go_enter Tryd.func11, Tryd.ntmps11
        go_wp2_with (first
          | (go_at_call 9; (with_reducible refine (C1.out _ (((Below.refl _ _).alloc (Nat.le_refl _) _).alloc (by simp) _)).mono ?_); rintro x w1 ⟨rfl, hb1⟩; rw [G.out]; have K1 := ((Bk.new w _ _).alloc _).after hb1; have K2 := (Bk.new1 w _ _ _).after hb1; have hb01 := B0.trans (hb1.mono (by simp; omega)))
          | (go_at_call 40; (with_reducible refine (C2.out _ hb01).mono ?_); rintro x w2 ⟨rfl, hb2⟩; rw [GP.out]; have k1 := (K1.after hb2).cell; have K3 := K2.after hb2; have hb02 := hb01.trans (hb2.mono hb01.size))
          | (go_at_call 41; (with_reducible refine (C3.out hsrt _ hb02).mono ?_); rintro x w3 ⟨rfl, hb3⟩; rw [TH.out]; have K4 := K3.after hb3; have k4 := K4.cell; have f4 := K4.free; clear k1; have hb03 := hb02.trans (hb3.mono hb02.size)))
        refine bodyPost_ret (v := .tuple #[.agg #[.string ⟨#[]⟩, .bool false, .slice none 0 0], .int .i64 5]) (by simp [results, Tryd.results11, go_sem, k4]) rfl ⟨_, by rw [FE.out], ?_, ?_⟩
        · rw [FV.out]; exact ⟨_, rfl, Byt.nil _⟩
        · exact below_set3 hb03 (by simp) _ _ _
      | true =>
        obtain ⟨e, he, _, hlt⟩ := there_some hsrt hth
        have FE : Hid (findE es p = 0) := by
          have : findE es p = 0 := by rw [findE, hg, hgp, hth]; rfl
          exact this
        have FV : Hid (findV es p = e) := by
          have : findV es p = e := by rw [findV, hg, hgp, hth, atA, he]; rfl
          exact this
        have heb : e.b.length ≤ 1048576 := by have := cnt_mem (List.mem_of_getElem? he); omega
        obtain ⟨b, o, rfl, hq⟩ := HC.out (by omega)
        have EA := Lib.hid (hq _ e he)
        obtain ⟨u, c0, c1, c2, hub⟩ := hq _ e he
        have C4 := Lib.hid (fun w1 (hb : Below w.heap.size w w1) => own_any e (.agg #[.string e.path, .bool e.dir, u]) w1 ⟨u, rfl, hub.below hb⟩ heb)
        have HW : Hid (∃ A n c, u = .slice A n c) := by obtain ⟨A, c, h, _⟩ := hub; exact ⟨A, _, c, h⟩
        have G := Lib.hid hg
        have GP := Lib.hid hgp
        have TH := Lib.hid hth
        have J0 := Lib.hid c0
        have J1 := Lib.hid c1
        have J2 := Lib.hid c2
        obtain ⟨uA, un, uc, rfl⟩ := HW.out
        clear hg hgp hth hq he hub c0 c1 c2
        go_enter Tryd.func11, Tryd.ntmps11
        go_wp2_with (first
          | (go_at_call 9; (with_reducible refine (C1.out _ (((Below.refl _ _).alloc (Nat.le_refl _) _).alloc (by simp) _)).mono ?_); rintro x w1 ⟨rfl, hb1⟩; rw [G.out]; have K1 := ((Bk.new w _ _).alloc _).after hb1; have K2 := (Bk.new1 w _ _ _).after hb1; have hb01 := B0.trans (hb1.mono (by simp; omega)))
          | (go_at_call 40; (with_reducible refine (C2.out _ hb01).mono ?_); rintro x w2 ⟨rfl, hb2⟩; rw [GP.out]; have K1' := K1.after hb2; have k1 := K1'.cell; have K3 := K2.after hb2; have hb02 := hb01.trans (hb2.mono hb01.size))
          | (go_at_call 41; (with_reducible refine (C3.out hsrt _ hb02).mono ?_); rintro x w3 ⟨rfl, hb3⟩; rw [TH.out]; clear k1; have K1'' := K1'.after hb3; have k1 := K1''.cell; have K4 := K3.after hb3; have hb03 := hb02.trans (hb3.mono hb02.size); have g0 := cell_below hb03 J0.out; have g1 := cell_below hb03 J1.out; have g2 := cell_below hb03 J2.out)
          | (go_at_call 42; (with_reducible refine (C4.out _ hb03).mono ?_); rintro x w4 ⟨v', rfl, ⟨u', rfl, hu'⟩, hb4, -⟩; have HV := Lib.hid hu'; obtain ⟨A', c', rfl, hj⟩ := hu'; clear hj; have K5 := K4.after hb4; have k5 := K5.cell; have f5 := K5.free; clear k1 g0 g1 g2; have hb04 := hb03.trans (hb4.mono hb03.size)))
        refine bodyPost_ret (v := .tuple #[.agg #[.string e.path, .bool e.dir, .slice A' e.b.length c'], .int .i64 0]) (by simp [results, Tryd.results11, go_sem, k5]) rfl ⟨_, by rw [FE.out], ?_, ?_⟩
        · rw [FV.out]; exact ⟨_, rfl, HV.out.set3 K5 (by simp) _ _ _ _ _⟩
        · exact below_set3 hb04 (by simp) _ _ _
end Go.Proofs.YtpfmenepgejgdaaDoor
