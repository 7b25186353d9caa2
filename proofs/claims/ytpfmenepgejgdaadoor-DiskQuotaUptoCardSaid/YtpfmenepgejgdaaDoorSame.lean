/-
  THE PACKAGE tree: Same. Own work.
-/
import Derived.Test.YtpfmenepgejgdaaDoorUp
namespace Go.Proofs.YtpfmenepgejgdaaDoor
open Go.RowKit

def same1 (x y : Ent) : Bool := (x.path.toList == y.path.toList) && ((x.dir == y.dir) && (x.b == y.b))
def alk : List Ent → List Ent → Bool
  | [], [] => true
  | x :: a, y :: b => same1 x y && alk a b
  | _, _ => false
theorem alk_len : ∀ {a b : List Ent}, a.length ≠ b.length → alk a b = false
  | [], [], h => absurd rfl h
  | [], _ :: _, _ => rfl
  | _ :: _, [], _ => rfl
  | x :: a, y :: b, h => by
    rw [alk, alk_len (by simpa using h), Bool.and_false]
theorem alk_drop {a b : List Ent} {k : Nat} {x y : Ent} (hx : a[k]? = some x) (hy : b[k]? = some y) : alk (a.drop k) (b.drop k) = (same1 x y && alk (a.drop (k + 1)) (b.drop (k + 1))) := by
  obtain ⟨h1, rfl⟩ := List.getElem?_eq_some_iff.1 hx
  obtain ⟨h2, rfl⟩ := List.getElem?_eq_some_iff.1 hy
  rw [List.drop_eq_getElem_cons h1, List.drop_eq_getElem_cons h2, alk]
theorem bytesOf_vals (bs : List UInt8) : Lib.bytesOf (bs.map fun b => (b.toNat : Int)) = bs := by
  unfold Lib.bytesOf
  rw [List.map_map]
  conv => rhs; rw [← List.map_id bs]
  refine List.map_congr_left fun b _ => ?_
  simp
theorem byt_in {w : World} {v : Value} {bs : List UInt8} (h : Byt w v bs) : ∃ A c, v = .slice A bs.length c ∧ Lib.BytesIn w A bs.length (bs.map fun b => (b.toNat : Int)) := by
  obtain ⟨A, c, rfl, _, _, h4⟩ := h
  refine ⟨A, c, rfl, fun hn => ?_⟩
  obtain ⟨b, o, e, h5⟩ := h4 hn
  exact ⟨b, o, e, fun i hi => by rw [h5 i _ (List.getElem?_eq_getElem hi), getD_by8 (List.getElem?_eq_getElem hi)]⟩
theorem bytesEq_any (a b : List UInt8) (u v : Value) (w : World) (ha : Byt w u a) (hb : Byt w v b) :
    Calls Tryd.prog 48 #[u, v] w fun e w' => e = .returned (.bool (a == b)) ∧ w' = w := by
  obtain ⟨A, c, rfl, h1⟩ := byt_in ha
  obtain ⟨B, d, rfl, h2⟩ := byt_in hb
  refine (Tryd.bytes_Equal_all A B a.length c b.length d _ _ w (by simp) (by simp) h1 h2).mono ?_
  rintro x w' ⟨rfl, rfl⟩
  rw [bytesOf_vals, bytesOf_vals]
  exact ⟨rfl, rfl⟩

theorem same1_any (x y : Ent) (u v : Value) (w : World) (hx : EntV w u x) (hy : EntV w v y) :
    Calls Tryd.prog 47 #[u, v] w fun e w' => e = .returned (.bool (same1 x y)) ∧ Below w.heap.size w w' := by
  obtain ⟨u0, rfl, hu⟩ := hx
  obtain ⟨v0, rfl, hv⟩ := hy
  have C := Lib.hid (fun w1 (h : Below w.heap.size w w1) => bytesEq_any x.b y.b u0 v0 w1 (hu.below h) (hv.below h))
  have H1 : Hid (∃ A n c, u0 = .slice A n c) := by obtain ⟨A, c, h, _⟩ := hu; exact ⟨A, _, c, h⟩
  have H2 : Hid (∃ A n c, v0 = .slice A n c) := by obtain ⟨A, c, h, _⟩ := hv; exact ⟨A, _, c, h⟩
  clear hu hv
  obtain ⟨A1, n1, d1, rfl⟩ := H1.out
  obtain ⟨A2, n2, d2, rfl⟩ := H2.out
  cases h1 : (x.path.toList == y.path.toList) <;> cases h2 : x.dir <;> cases h3 : y.dir
  all_goals
    have F : Hid (same1 x y = ((x.path.toList == y.path.toList) && ((x.dir == y.dir) && (x.b == y.b)))) := (rfl : same1 x y = ((x.path.toList == y.path.toList) && ((x.dir == y.dir) && (x.b == y.b))))
    have E1 := Lib.hid h1
    have E2 := Lib.hid h2
    have E3 := Lib.hid h3
    clear h2 h3
    have B0 := ((Below.refl w.heap.size w).alloc (Nat.le_refl _) (.cells #[.string x.path, .bool x.dir, .slice A1 n1 d1] 30)).alloc (by simp) (.cells #[.string y.path, .bool y.dir, .slice A2 n2 d2] 30)
    rw [E2.out, E3.out] at B0
    go_enter Tryd.func47, Tryd.ntmps47
    go_wp2_with (go_at_call 48; refine (C.out _ (((Below.refl _ _).alloc (Nat.le_refl _) _).alloc (by simp) _)).mono ?_; rintro x1 w1 ⟨rfl, rfl⟩)
    go_ret
    exact ⟨ret_bool (by rw [F.out, E1.out, E2.out, E3.out]; rfl), B0⟩

set_option maxHeartbeats 1000000 in
theorem equalF_any (a b : List Ent) (u v : Value) (w : World) (ha : Ents w u a) (hb : Ents w v b) (hn : a.length ≤ 1048576) (hn2 : b.length ≤ 1048576) :
    Calls Tryd.prog 46 #[u, v, .func (.func 47) #[] #[]] w fun e w' => e = .returned (.bool (alk a b)) ∧ Below w.heap.size w w' := by
  obtain ⟨A, c, rfl, _, _, hc1⟩ := ha
  obtain ⟨B, d, rfl, _, _, hc2⟩ := hb
  have HA := Lib.hid hc1
  have HB := Lib.hid hc2
  clear hc1 hc2
  have eg := enters_of Tryd.func47 (by kernel_rfl) rfl
  by_cases hl : a.length = b.length
  · rw [hl]
    have HL := Lib.hid hl
    go_enter Tryd.func46, Tryd.ntmps46
    go_wp2_with fail
    clear hl
    go_loopw [17] (fun i wr => ∃ k : Nat, k ≤ b.length ∧ i = .int .i64 k ∧ Below w.heap.size w wr ∧ Hid (alk a b = alk (a.drop k) (b.drop k))) (fun i _ => b.length - (intOf i).toNat)
    case atStart => exact ⟨0, Nat.zero_le _, rfl, Below.refl _ _, (rfl : alk a b = alk (a.drop 0) (b.drop 0))⟩
    case round =>
      obtain ⟨k, hk, rfl, hbw, HG⟩ := hrel
      by_cases hlt : k < b.length
      · have hka : k < a.length := by have := HL.out; omega
        obtain ⟨x, hkx⟩ : ∃ x, a[k]? = some x := ⟨_, List.getElem?_eq_getElem hka⟩
        obtain ⟨y, hky⟩ : ∃ y, b[k]? = some y := ⟨_, List.getElem?_eq_getElem (by omega)⟩
        obtain ⟨g1, o1, rfl, q1⟩ := HA.out (by omega)
        obtain ⟨g2, o2, rfl, q2⟩ := HB.out (by omega)
        obtain ⟨u0, a0, a1, a2, hu⟩ := (q1 k x hkx).below hbw
        obtain ⟨v0, b0, b1, b2, hv⟩ := (q2 k y hky).below hbw
        have X : Hid (EntV wr (.agg #[.string x.path, .bool x.dir, u0]) x) := (⟨_, rfl, hu⟩ : EntV wr (.agg #[.string x.path, .bool x.dir, u0]) x)
        have Y : Hid (EntV wr (.agg #[.string y.path, .bool y.dir, v0]) y) := (⟨_, rfl, hv⟩ : EntV wr (.agg #[.string y.path, .bool y.dir, v0]) y)
        have S := Lib.hid (alk_drop hkx hky)
        have C := Lib.hid (fun w1 (h : Below wr.heap.size wr w1) => same1_any x y _ _ w1 (X.out.below h) (Y.out.below h))
        obtain ⟨A1, d1, rfl, _⟩ := hu
        obtain ⟨A2, d2, rfl, _⟩ := hv
        have B0 := ((Below.refl wr.heap.size wr).alloc (Nat.le_refl _) (.cells #[.string x.path, .bool x.dir, .slice A1 x.b.length d1] 30)).alloc (by simp) (.cells #[.string y.path, .bool y.dir, .slice A2 y.b.length d2] 30)
        have b0' := Lib.cell?_alloc_some (.cells #[.string x.path, .bool x.dir, .slice A1 x.b.length d1] 30) b0
        have b1' := Lib.cell?_alloc_some (.cells #[.string x.path, .bool x.dir, .slice A1 x.b.length d1] 30) b1
        have b2' := Lib.cell?_alloc_some (.cells #[.string x.path, .bool x.dir, .slice A1 x.b.length d1] 30) b2
        clear q1 q2 hkx hky b0 b1 b2
        cases hs : same1 x y
        all_goals
          have E := Lib.hid hs
          clear hs
          go_wp2_with (go_at_call 47; refine (C.out _ (((Below.refl _ _).alloc (Nat.le_refl _) _).alloc (by simp) _)).mono ?_; rintro x1 w1 ⟨rfl, hb1⟩; rw [E.out])
        · go_ret
          exact ⟨ret_bool (by rw [HG.out, S.out, E.out]; rfl), hbw.trans ((B0.trans (hb1.mono (by simp; omega))).mono hbw.size)⟩
        · go_roundw
          case rel =>
            refine ⟨k + 1, hlt, by go_num, hbw.trans ((B0.trans (hb1.mono (by simp; omega))).mono hbw.size), ?_⟩
            have : alk a b = alk (a.drop (k + 1)) (b.drop (k + 1)) := by rw [HG.out, S.out, E.out]; rfl
            exact this
          case measure => simp [intOf]; omega
      · obtain rfl : b.length = k := by omega
        go_wp2_with fail
        go_ret
        exact ⟨ret_bool (by rw [HG.out, List.drop_length, ← HL.out, List.drop_length]; rfl), hbw⟩
  · have hl2 : ¬ (a.length : Int) = (b.length : Int) := by omega
    have F := Lib.hid (alk_len hl)
    go_enter Tryd.func46, Tryd.ntmps46
    go_wp2_with fail
    go_ret
    exact ⟨ret_bool F.out.symm, Below.refl _ _⟩

def sameT (a b : List Ent) : Bool := goodT a && (goodT b && alk a b)
theorem treeSame_any (a b : List Ent) (u v : Value) (m : Int) (w : World) (ha : TreeV w u a) (hb : TreeV w v b) (hn : a.length ≤ 1048576) (hn2 : b.length ≤ 1048576) (hc : cnt a ≤ 1048576) (hc2 : cnt b ≤ 1048576)
    (hz : ∀ e ∈ a, e.path.size ≤ 1048576) (hz2 : ∀ e ∈ b, e.path.size ≤ 1048576) (hm : Mx m w) :
    Calls Tryd.prog 13 #[u, v] w fun e w' => e = .returned (.bool (sameT a b)) ∧ Below w.heap.size w w' := by
  have C1 := Lib.hid (fun w1 (h : Below w.heap.size w w1) => treeGood_any a u m w1 (ha.below h) hn hc hz (hm.below h))
  have C2 := Lib.hid (fun w1 (h : Below w.heap.size w w1) => treeGood_any b v m w1 (hb.below h) hn2 hc2 hz2 (hm.below h))
  obtain ⟨u0, rfl, hu⟩ := ha
  obtain ⟨v0, rfl, hv⟩ := hb
  have C3 := Lib.hid (fun w1 (h : Below w.heap.size w w1) => equalF_any a b u0 v0 w1 (hu.below h) (hv.below h) hn hn2)
  obtain ⟨A1, d1, rfl, _⟩ := hu
  obtain ⟨A2, d2, rfl, _⟩ := hv
  clear hz hz2
  have F : Hid (sameT a b = (goodT a && (goodT b && alk a b))) := (rfl : sameT a b = (goodT a && (goodT b && alk a b)))
  have B0 := ((Below.refl w.heap.size w).alloc (Nat.le_refl _) (.cells #[.slice A1 a.length d1] 25)).alloc (by simp) (.cells #[.slice A2 b.length d2] 25)
  cases h1 : goodT a <;> cases h2 : goodT b
  all_goals
    have G1 := Lib.hid h1
    have G2 := Lib.hid h2
    clear h1 h2
    go_enter Tryd.func13, Tryd.ntmps13
    go_wp2_with (first
      | (go_at_call 9; (first
          | ((with_reducible refine (C1.out _ (((Below.refl _ _).alloc (Nat.le_refl _) _).alloc (by simp) _)).mono ?_); rintro x w1 ⟨rfl, hb1⟩; rw [G1.out]; have k1 := (((Bk.new w _ _).alloc _).after hb1).cell; have k2 := ((Bk.new1 w _ _ _).after hb1).cell; have hb01 := B0.trans (hb1.mono (by simp; omega)))
          | ((with_reducible refine (C2.out _ hb01).mono ?_); rintro x w2 ⟨rfl, hb2⟩; rw [G2.out]; have k3 := ((((Bk.new w _ _).alloc _).after hb1).after hb2).cell; have k4 := (((Bk.new1 w _ _ _).after hb1).after hb2).cell; clear k1 k2; have hb02 := hb01.trans (hb2.mono hb01.size))))
      | (go_at_call 46; refine (C3.out _ hb02).mono ?_; rintro x w3 ⟨rfl, hb3⟩))
    go_ret
  · exact ⟨ret_bool (by rw [F.out, G1.out]; rfl), hb01⟩
  · exact ⟨ret_bool (by rw [F.out, G1.out]; rfl), hb01⟩
  · exact ⟨ret_bool (by rw [F.out, G1.out, G2.out]; rfl), hb02⟩
  · exact ⟨ret_bool (by rw [F.out, G1.out, G2.out]; rfl), hb02.trans (hb3.mono hb02.size)⟩
end Go.Proofs.YtpfmenepgejgdaaDoor
