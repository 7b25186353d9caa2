/-
  THE LIBRARY'S FUNCTIONS THAT THE PROGRAM CALLS ON TEXTS: each by a contract in plain words. Own work over the shelf's contracts.
-/
import Derived.Test.YtpfmenepgejgdaaDoorShelf
import Derived.Test.YtpfmenepgejgdaaDoorPl
import Derived.Shelf.Strings.SlTrimAscii
import Derived.WalkKit
import Derived.WalkSpells
import Derived.WalkLawsBesides
import Derived.ProofKit
import Derived.Lib.Hide
namespace Go.Proofs.YtpfmenepgejgdaaDoor
open Go.RowKit

/-- internal/bytealg.MaxLen holds the number m. -/
def Mx (m : Int) (w : World) : Prop := w.cell? ⟨0, 0, none⟩ = some (.int .i64 m)

theorem cell_below {w w1 : World} {a : Addr} {v : Value} (hb : Below w.heap.size w w1) (h : w.cell? a = some v) : w1.cell? a = some v :=
  (hb.cell (World.block_lt_of_cell? w a h)).trans h

theorem Mx.below {m : Int} {w w1 : World} (h : Mx m w) (hb : Below w.heap.size w w1) : Mx m w1 := cell_below hb h

/-- A row of texts. -/
def Strs (w : World) (a : Addr) (l : List ByteArray) : Prop := ∀ j s, l[j]? = some s → w.cell? (a.add j) = some (.string s)
theorem Strs.below {w w1 : World} {a : Addr} {l : List ByteArray} (h : Strs w a l) (hb : Below w.heap.size w w1) : Strs w1 a l :=
  fun j s hj => cell_below hb (h j s hj)

/-- The bytes of each. -/
def tx (l : List ByteArray) : List Pl.Bs := l.map (·.data.toList)

/-- Two texts: -1, 0, 1. -/
def c2 (x y : ByteArray) : Int := if Op.bytesLess x.toList y.toList then -1 else if Op.bytesLess y.toList x.toList then 1 else 0
theorem less_bl : ∀ a b : Pl.Bs, Op.bytesLess a b = Pl.bl a b := by
  intro a
  induction a with
  | nil => intro b; cases b <;> rfl
  | cons c r ih =>
    intro b
    cases b with
    | nil => rfl
    | cons d t => rw [Op.bytesLess, Pl.bl, ih]
theorem c2_lt {x y : ByteArray} (h : Op.bytesLess x.toList y.toList = true) : c2 x y = -1 := by rw [c2, if_pos h]
theorem c2_gt {x y : ByteArray} (h : Op.bytesLess x.toList y.toList = false) (h2 : (x.toList == y.toList) = false) : c2 x y = 1 := by
  rw [c2, if_neg (by rw [h]; simp), if_pos]
  rw [less_bl] at h ⊢
  rcases Pl.bl_tri x.toList y.toList with h3 | h3 | h3
  · rw [h3] at h; cases h
  · rw [beq_eq_false_iff_ne] at h2; exact absurd h3 h2
  · exact h3
theorem c2_eq {x y : ByteArray} (h2 : (x.toList == y.toList) = true) : c2 x y = 0 := by
  rw [beq_iff_eq] at h2
  rw [c2, h2, less_bl, Pl.bl_irr]
  rfl
/-- Two rows of texts. -/
def cs : List ByteArray → List ByteArray → Int
  | [], [] => 0
  | [], _ :: _ => -1
  | _ :: _, [] => 1
  | x :: X, y :: Y => if c2 x y = 0 then cs X Y else c2 x y
theorem cs_cl : ∀ X Y : List ByteArray, cs X Y = Pl.cl (tx X) (tx Y)
  | [], [] => rfl
  | [], _ :: _ => rfl
  | _ :: _, [] => rfl
  | x :: X, y :: Y => by
    rw [cs, cs_cl X Y]
    show _ = Pl.cl (x.data.toList :: tx X) (y.data.toList :: tx Y)
    rw [Pl.cl, c2, less_bl, less_bl, Lib.toList_data, Lib.toList_data]
    by_cases h1 : Pl.bl x.data.toList y.data.toList = true
    · rw [if_pos h1, if_pos h1]; simp
    · rw [if_neg h1, if_neg h1]
      by_cases h2 : Pl.bl y.data.toList x.data.toList = true
      · rw [if_pos h2, if_pos h2]; simp
      · rw [if_neg h2, if_neg h2]; simp

theorem nan_any (x : ByteArray) (w : World) : Calls Tryd.prog 92 #[.string x] w fun e w' => e = .returned (.bool false) ∧ w = w' := by
  go_enter Tryd.func92, Tryd.ntmps92
  go_wp2
  go_ret
  exact ⟨by simp, rfl⟩

theorem compare_any (x y : ByteArray) (w : World) :
    Calls Tryd.prog 83 #[.string x, .string y] w fun e w' => e = .returned (.int .i64 (c2 x y)) ∧ w = w' := by
  cases h1 : Op.bytesLess x.toList y.toList with
  | true =>
    have R := Lib.hid (c2_lt h1)
    go_enter Tryd.func83, Tryd.ntmps83
    go_wp2_with (go_at_call 92; refine (nan_any _ _).mono ?_; rintro e w' ⟨rfl, rfl⟩)
    go_ret
    exact ⟨by rw [R.out]; rfl, rfl⟩
  | false =>
    cases h2 : (x.toList == y.toList) with
    | true =>
      have R := Lib.hid (c2_eq h2)
      go_enter Tryd.func83, Tryd.ntmps83
      go_wp2_with (go_at_call 92; refine (nan_any _ _).mono ?_; rintro e w' ⟨rfl, rfl⟩)
      go_ret
      exact ⟨by rw [R.out]; rfl, rfl⟩
    | false =>
      have R := Lib.hid (c2_gt h1 h2)
      go_enter Tryd.func83, Tryd.ntmps83
      go_wp2_with (go_at_call 92; refine (nan_any _ _).mono ?_; rintro e w' ⟨rfl, rfl⟩)
      go_ret
      exact ⟨by rw [R.out]; rfl, rfl⟩

theorem cs_drop {X Y : List ByteArray} {k : Nat} {x y : ByteArray} (hx : X[k]? = some x) (hy : Y[k]? = some y) : cs (X.drop k) (Y.drop k) = if c2 x y = 0 then cs (X.drop (k + 1)) (Y.drop (k + 1)) else c2 x y := by
  obtain ⟨h1, rfl⟩ := List.getElem?_eq_some_iff.1 hx
  obtain ⟨h2, rfl⟩ := List.getElem?_eq_some_iff.1 hy
  rw [List.drop_eq_getElem_cons h1, List.drop_eq_getElem_cons h2, cs]

set_option maxHeartbeats 1000000 in
theorem cmps_any (X Y : List ByteArray) (a b : Addr) (c d : Nat) (w : World) (hx : Strs w a X) (hy : Strs w b Y) (hX : X.length ≤ 1000000000) (_hY : Y.length ≤ 1000000000) :
    Calls Tryd.prog 67 #[.slice (some a) X.length c, .slice (some b) Y.length d] w fun e w' => e = .returned (.int .i64 (cs X Y)) ∧ w = w' := by
  go_enter Tryd.func67, Tryd.ntmps67
  go_wp2
  go_loop [11] (fun i => ∃ k : Nat, k ≤ X.length ∧ k ≤ Y.length ∧ i = .int .i64 k ∧ Hid (cs X Y = cs (X.drop k) (Y.drop k))) (fun i => X.length - (intOf i).toNat)
  case atStart => exact ⟨0, Nat.zero_le _, Nat.zero_le _, rfl, (rfl : cs X Y = cs (X.drop 0) (Y.drop 0))⟩
  case round =>
    obtain ⟨k, hk, hk2, rfl, HC⟩ := hrel
    by_cases hlt : k < X.length
    · by_cases hlt2 : k < Y.length
      · obtain ⟨x, hkx⟩ : ∃ x, X[k]? = some x := ⟨_, List.getElem?_eq_getElem hlt⟩
        obtain ⟨y, hky⟩ : ∃ y, Y[k]? = some y := ⟨_, List.getElem?_eq_getElem hlt2⟩
        have c1 := hx k x hkx
        have c2' := hy k y hky
        have D := Lib.hid (cs_drop hkx hky)
        clear hkx hky
        by_cases hc : c2 x y = 0
        · have hc' : (c2 x y == 0) = true := by rw [beq_iff_eq]; exact hc
          have hc'' : (c2 x y != 0) = false := by simp [hc]
          have HC2 := Lib.hid hc
          clear hc
          go_wp2_with (go_at_call 83; refine (compare_any _ _ _).mono ?_; rintro e w' ⟨rfl, rfl⟩)
          exact ⟨⟨k + 1, hlt, hlt2, by go_num, (by rw [HC.out, D.out, if_pos HC2.out] : cs X Y = _)⟩, by simp [intOf]; omega⟩
        · have hc' : (c2 x y == 0) = false := by rw [beq_eq_false_iff_ne]; exact hc
          have hc'' : (c2 x y != 0) = true := by simp [hc]
          have HC2 := Lib.hid hc
          clear hc
          go_wp2_with (go_at_call 83; refine (compare_any _ _ _).mono ?_; rintro e w' ⟨rfl, rfl⟩)
          go_ret
          exact ⟨by rw [HC.out, D.out, if_neg HC2.out]; rfl, rfl⟩
      · have D : Hid (cs X Y = 1) := by
          have e : Y.drop k = [] := List.drop_of_length_le (by omega)
          have e2 : cs X Y = 1 := by rw [HC.out, e, List.drop_eq_getElem_cons hlt]; rfl
          exact e2
        obtain ⟨x, hkx⟩ : ∃ x, X[k]? = some x := ⟨_, List.getElem?_eq_getElem hlt⟩
        have c1 := hx k x hkx
        clear hkx
        go_wp2
        go_ret
        exact ⟨by rw [D.out]; rfl, rfl⟩
    · obtain rfl : X.length = k := by omega
      by_cases hlt2 : X.length < Y.length
      · have D : Hid (cs X Y = -1) := by
          have e2 : cs X Y = -1 := by rw [HC.out, List.drop_of_length_le (Nat.le_refl _), List.drop_eq_getElem_cons hlt2]; rfl
          exact e2
        go_wp2
        go_ret
        exact ⟨by rw [D.out]; rfl, rfl⟩
      · have D : Hid (cs X Y = 0) := by
          have e : Y.drop X.length = [] := List.drop_of_length_le (by omega)
          have e2 : cs X Y = 0 := by rw [HC.out, e, List.drop_of_length_le (Nat.le_refl _)]; rfl
          exact e2
        go_wp2
        go_ret
        exact ⟨by rw [D.out]; rfl, rfl⟩

/-! ### strings.Split at '/' -/
def sl : ByteArray := ⟨#[47]⟩
/-- A text's names. -/
def spB (p : ByteArray) : List ByteArray := Lib.splitB sl 0 (Lib.countB p sl) p
theorem tx_spB (p : ByteArray) : tx (spB p) = Pl.sp p.data.toList := by
  unfold tx spB
  rw [Lib.splitB_data]
  exact Pl.split_sp _ _ (Nat.le_refl _)
theorem spB_len (p : ByteArray) : (spB p).length = (Pl.sp p.data.toList).length := by
  rw [← tx_spB, tx, List.length_map]
theorem spB_le (p : ByteArray) : (spB p).length ≤ p.size + 1 := by
  rw [spB_len]
  have : ∀ l : Pl.Bs, (Pl.sp l).length ≤ l.length + 1 := by
    intro l
    induction l with
    | nil => simp [Pl.sp]
    | cons c r ih =>
      unfold Pl.sp
      split
      · simp; omega
      · have := Pl.sp_ne r
        split
        · next h t e => rw [e] at ih; simp at ih ⊢; omega
        · simp
  have := this p.data.toList
  simpa using this
theorem count_spB (p : ByteArray) : Lib.countB p sl + 1 = (spB p).length := by
  have : ∀ (n : Nat) (l : Pl.Bs), l.length ≤ n → Lib.count l [47] + 1 = (Pl.sp l).length := by
    intro n
    induction n with
    | zero =>
      intro l hl
      obtain rfl : l = [] := List.eq_nil_of_length_eq_zero (by omega)
      rfl
    | succ n ih =>
      intro l hl
      by_cases hm : (47 : UInt8) ∈ l
      · obtain ⟨a, r, rfl, ha⟩ := Pl.first_at hm
        have hi := Pl.index_hit (r := r) ha
        rw [Lib.count_hit (by simp) hi, Pl.sp_app ha, Pl.sp, if_pos rfl]
        have ed : (a ++ 47 :: r).drop (a.length + [(47 : UInt8)].length) = r := by simp
        rw [ed]
        have := ih r (by simp at hl; omega)
        simp only [List.length_cons]
        omega
      · rw [Lib.count_miss (Pl.index_miss hm), Pl.sp_one hm]
        rfl
  rw [spB_len]
  exact this _ _ (Nat.le_refl _)

theorem split_any (p : ByteArray) (m : Int) (w : World) (hs : p.size ≤ 1048576) (hm : Mx m w) :
    Calls Tryd.prog 68 #[.string p, .string ⟨#[47]⟩] w fun e w' =>
      e = .returned (.slice (some ⟨w.heap.size, 0, none⟩) (spB p).length (spB p).length) ∧ Strs w' ⟨w.heap.size, 0, none⟩ (spB p) ∧ Below w.heap.size w w' := by
  refine (Tryd.strings_Split p sl m w (by omega) hm (by decide)).mono ?_
  rintro e w' ⟨rfl, rfl⟩
  refine ⟨by rw [count_spB], fun j s hj => ?_, (Below.refl _ _).alloc (Nat.le_refl _) _⟩
  have h := cell_of_row (w.alloc (.cells ((spB p).map Value.string).toArray 9)) w.heap.size j _ _ _ (heap_alloc_new w _)
  have e : (⟨w.heap.size, 0, none⟩ : Addr).add j = ⟨w.heap.size, j, none⟩ := by simp [Addr.add_lit]
  rw [e]
  refine h.trans ?_
  simp [hj]

end Go.Proofs.YtpfmenepgejgdaaDoor
