/-
  THE PACKAGE tree, its inner functions: where a path stands. Own work.
-/
import Derived.Test.YtpfmenepgejgdaaDoorMem
namespace Go.Proofs.YtpfmenepgejgdaaDoor
open Go.RowKit

theorem bcell {W w1 : World} (hb : Below W.heap.size W w1) : (∀ b o, b < W.heap.size → w1.cell? ⟨b, o, none⟩ = W.cell? ⟨b, o, none⟩) ∧ (∀ b o, b < W.heap.size → w1.frozen? ⟨b, o, none⟩ = W.frozen? ⟨b, o, none⟩) :=
  ⟨fun b o h => hb.cell (p := ⟨b, o, none⟩) h, fun b o h => hb.frozen (p := ⟨b, o, none⟩) h⟩

abbrev bd (s : ByteArray) : Pl.Bs := s.data.toList

theorem cmpE_any (e : Ent) (v : Value) (p : ByteArray) (m : Int) (w : World) (he : EntV w v e) (h1 : e.path.size ≤ 1048576) (hp : p.size ≤ 1048576) (hm : Mx m w) :
    Calls Tryd.prog 73 #[v, .string p] w fun x w' => x = .returned (.int .i64 (Pl.pc (bd e.path) (bd p))) ∧ Below w.heap.size w w' := by
  obtain ⟨u, rfl, hu⟩ := he
  go_enter Tryd.func73, Tryd.ntmps73
  go_wp2_with fail
  have hm1 : Mx m (w.alloc (.cells #[.string e.path, .bool e.dir, u] 30)) := hm.below ((Below.refl _ _).alloc (Nat.le_refl _) _)
  go_wp2_with (go_at_call 39; (with_reducible refine (cmp_any _ _ m _ h1 hp hm1).mono ?_); rintro x w1 ⟨rfl, hb1⟩)
  go_ret
  refine ⟨rfl, ((Below.refl w.heap.size w).alloc (Nat.le_refl _) _).trans (hb1.mono ?_)⟩
  simp

/-- How many stand ahead of a path. -/
def ahead (es : List Ent) (p : ByteArray) : Nat := es.countP (fun e => decide (Pl.pc (bd e.path) (bd p) < 0))
/-- What stands there. -/
def there (es : List Ent) (p : ByteArray) : Bool := es.any (fun e => decide (Pl.pc (bd e.path) (bd p) = 0))

/-- The place a path has among sorted ones. -/
theorem ahead_at {es : List Ent} {p : ByteArray} : ∀ {i : Nat}, i ≤ es.length → (∀ t e, t < i → es[t]? = some e → Pl.pc (bd e.path) (bd p) < 0) → (∀ t e, i ≤ t → es[t]? = some e → 0 ≤ Pl.pc (bd e.path) (bd p)) → ahead es p = i := by
  unfold ahead
  induction es with
  | nil => intro i hi _ _; simp at hi; simp [hi]
  | cons x r ih =>
    intro i hi h1 h2
    cases i with
    | zero =>
      rw [List.countP_eq_zero]
      intro e he
      obtain ⟨t, ht⟩ := List.mem_iff_getElem?.1 he
      have := h2 t e (Nat.zero_le _) ht
      simp; omega
    | succ i =>
      have hx := h1 0 x (by omega) rfl
      rw [List.countP_cons_of_pos (by simpa using hx), ih (i := i) (by simpa using hi) (fun t e ht he => h1 (t + 1) e (by omega) (by simpa using he)) (fun t e ht he => h2 (t + 1) e (by omega) (by simpa using he))]

theorem there_at {es : List Ent} {p : ByteArray} (hs : es.Pairwise (fun x y => Pl.pc (bd x.path) (bd y.path) < 0)) {i : Nat} (h1 : ∀ t e, t < i → es[t]? = some e → Pl.pc (bd e.path) (bd p) < 0) :
    (∀ e, es[i]? = some e → there es p = decide (Pl.pc (bd e.path) (bd p) = 0) ∨ Pl.pc (bd e.path) (bd p) < 0) ∧ (es[i]? = none → there es p = false) := by
  constructor
  · intro e he
    by_cases h0 : Pl.pc (bd e.path) (bd p) = 0
    · left
      rw [decide_eq_true h0, there, List.any_eq_true]
      exact ⟨e, List.mem_of_getElem? he, by simpa using h0⟩
    · rcases Pl.pc_range (bd e.path) (bd p) with h | h | h
      · right; omega
      · exact absurd h h0
      · left
        rw [decide_eq_false h0, there, List.any_eq_false]
        intro x hx
        obtain ⟨t, ht⟩ := List.mem_iff_getElem?.1 hx
        rw [decide_eq_true_eq]
        rcases Nat.lt_trichotomy t i with hl | rfl | hg
        · have := h1 t x hl ht; omega
        · rw [he] at ht; injection ht with ht; rw [← ht]; exact h0
        · have ho : Pl.pc (bd e.path) (bd x.path) < 0 := by
            obtain ⟨hti, rfl⟩ := List.getElem?_eq_some_iff.1 ht
            obtain ⟨hii, rfl⟩ := List.getElem?_eq_some_iff.1 he
            exact List.pairwise_iff_getElem.1 hs i t hii hti hg
          intro hx0
          have e1 := Pl.pc_eq.1 hx0
          rw [e1] at ho
          omega
  · intro he
    rw [there, List.any_eq_false]
    intro x hx
    obtain ⟨t, ht⟩ := List.mem_iff_getElem?.1 hx
    have hlt : t < i := by
      rcases Nat.lt_or_ge t i with h | h
      · exact h
      · have := List.getElem?_eq_none_iff.1 he
        rw [List.getElem?_eq_none (by omega)] at ht
        cases ht
    have := h1 t x hlt ht
    simp; omega

theorem mono_at {es : List Ent} {p : ByteArray} (hs : es.Pairwise (fun x y => Pl.pc (bd x.path) (bd y.path) < 0)) {i : Nat} {x : Ent} (hx : es[i]? = some x) :
    (Pl.pc (bd x.path) (bd p) < 0 → ∀ t e, t < i + 1 → es[t]? = some e → Pl.pc (bd e.path) (bd p) < 0) ∧ (¬ Pl.pc (bd x.path) (bd p) < 0 → ∀ t e, i ≤ t → es[t]? = some e → 0 ≤ Pl.pc (bd e.path) (bd p)) := by
  obtain ⟨hii, rfl⟩ := List.getElem?_eq_some_iff.1 hx
  constructor
  · intro h t e ht he
    obtain ⟨hti, rfl⟩ := List.getElem?_eq_some_iff.1 he
    rcases Nat.lt_or_ge t i with hlt | hge
    · exact Pl.pc_trans (List.pairwise_iff_getElem.1 hs t i hti hii hlt) h
    · obtain rfl : t = i := by omega
      exact h
  · intro h t e ht he
    obtain ⟨hti, rfl⟩ := List.getElem?_eq_some_iff.1 he
    rcases Nat.lt_or_ge i t with hlt | hge
    · have := List.pairwise_iff_getElem.1 hs i t hii hti hlt
      rcases Pl.pc_range (bd es[t].path) (bd p) with h2 | h2 | h2
      · exact absurd (Pl.pc_trans this (by omega)) h
      · omega
      · omega
    · obtain rfl : t = i := by omega
      omega

/-- The loop's state. -/
def Brk (es : List Ent) (p : ByteArray) (lo hi : Nat) : Prop :=
  (∀ t e, t < lo → es[t]? = some e → Pl.pc (bd e.path) (bd p) < 0) ∧ (∀ t e, hi ≤ t → es[t]? = some e → 0 ≤ Pl.pc (bd e.path) (bd p))

set_option maxHeartbeats 2000000 in
theorem search_any (es : List Ent) (v : Value) (p : ByteArray) (m : Int) (w : World) (h : Ents w v es) (hn : es.length ≤ 1048576) (hz : ∀ e ∈ es, e.path.size ≤ 1048576) (hp : p.size ≤ 1048576) (hm : Mx m w)
    (hs : es.Pairwise (fun x y => Pl.pc (bd x.path) (bd y.path) < 0)) :
    Calls Tryd.prog 72 #[v, .string p, .func (.func 73) #[] #[]] w fun x w' =>
      x = .returned (.tuple #[.int .i64 (ahead es p), .bool (there es p)]) ∧ Below w.heap.size w w' := by
  obtain ⟨A, c, rfl, hlc, hnone, hcell⟩ := h
  have HC := Lib.hid hcell
  have HZ := Lib.hid hz
  have HS := Lib.hid hs
  clear hz hcell hnone hs
  have eg := enters_of Tryd.func73 (by kernel_rfl) rfl
  go_enter Tryd.func72, Tryd.ntmps72
  go_wp2_with fail
  go_loopw [9, 10] (fun s9 s10 wr => ∃ lo hi : Nat, s9 = .int .i64 lo ∧ s10 = .int .i64 hi ∧ lo ≤ hi ∧ hi ≤ es.length ∧ Brk es p lo hi ∧ Below w.heap.size w wr) (fun s9 s10 _ => (intOf s10).toNat - (intOf s9).toNat)
  case atStart => exact ⟨0, es.length, rfl, rfl, Nat.zero_le _, Nat.le_refl _, ⟨fun t e ht => by omega, fun t e ht he => by rw [List.getElem?_eq_none ht] at he; cases he⟩, Below.refl _ _⟩
  case round =>
    obtain ⟨lo, hi, rfl, rfl, hlh, hhn, hB, hb⟩ := hrel
    have HB := Lib.hid hB
    clear hB
    by_cases hlt : lo < hi
    · obtain ⟨x, hkx⟩ : ∃ x, es[(lo + hi) / 2]? = some x := ⟨_, List.getElem?_eq_getElem (by omega)⟩
      obtain ⟨b, o, rfl, hcel⟩ := HC.out (by omega)
      have hat := (hcel _ x hkx).below hb
      obtain ⟨u, c0, c1, c2, hu⟩ := hat
      have hev : EntV wr (.agg #[.string x.path, .bool x.dir, u]) x := ⟨u, rfl, hu⟩
      have hxs := HZ.out x (List.mem_of_getElem? hkx)
      have MO := Lib.hid (mono_at (p := p) HS.out hkx)
      have hmr := hm.below hb
      have HU := Lib.hid hu
      clear hkx hcel hu
      by_cases hl : Pl.pc (bd x.path) (bd p) < 0
      · go_wp2_with (go_at_call 73; (with_reducible refine (cmpE_any x _ p m _ hev hxs hp hmr).mono ?_); rintro y w1 ⟨rfl, hb1⟩)
        go_roundw
        case rel =>
          exact ⟨(lo + hi) / 2 + 1, hi, by rw [show ((lo : Int) + (hi : Int)) / 2 + 1 = (((lo + hi) / 2 + 1 : Nat) : Int) by omega], rfl, by omega, hhn, ⟨MO.out.1 hl, HB.out.2⟩, hb.trans (hb1.mono hb.size)⟩
        case measure => simp [intOf]; omega
      · go_wp2_with (go_at_call 73; (with_reducible refine (cmpE_any x _ p m _ hev hxs hp hmr).mono ?_); rintro y w1 ⟨rfl, hb1⟩)
        go_roundw
        case rel =>
          exact ⟨lo, (lo + hi) / 2, rfl, by rw [show ((lo : Int) + (hi : Int)) / 2 = (((lo + hi) / 2 : Nat) : Int) by omega], by omega, by omega, ⟨HB.out.1, MO.out.2 hl⟩, hb.trans (hb1.mono hb.size)⟩
        case measure => simp [intOf]; omega
    · obtain rfl : lo = hi := by omega
      have HA : Hid (ahead es p = lo) := (ahead_at hhn HB.out.1 HB.out.2 : ahead es p = lo)
      have TH := Lib.hid (there_at (p := p) HS.out HB.out.1)
      by_cases hln : lo < es.length
      · obtain ⟨x, hkx⟩ : ∃ x, es[lo]? = some x := ⟨_, List.getElem?_eq_getElem hln⟩
        obtain ⟨b, o, rfl, hcel⟩ := HC.out (by omega)
        have hat := (hcel _ x hkx).below hb
        obtain ⟨u, c0, c1, c2, hu⟩ := hat
        have hev : EntV wr (.agg #[.string x.path, .bool x.dir, u]) x := ⟨u, rfl, hu⟩
        have hxs := HZ.out x (List.mem_of_getElem? hkx)
        have hmr := hm.below hb
        have HT : Hid (there es p = decide (Pl.pc (bd x.path) (bd p) = 0)) := by
          have : there es p = decide (Pl.pc (bd x.path) (bd p) = 0) := by
            rcases TH.out.1 x hkx with h | h
            · exact h
            · have := HB.out.2 lo x (Nat.le_refl _) hkx; omega
          exact this
        have HU := Lib.hid hu
        clear hkx hcel hu
        go_wp2_with (go_at_call 73; (with_reducible refine (cmpE_any x _ p m _ hev hxs hp hmr).mono ?_); rintro y w1 ⟨rfl, hb1⟩)
        go_ret2
        exact ⟨by rw [HA.out, HT.out]; rfl, hb.trans (hb1.mono hb.size)⟩
      · obtain rfl : lo = es.length := by omega
        have HT : Hid (there es p = false) := TH.out.2 (List.getElem?_eq_none (Nat.le_refl _))
        go_wp2
        go_ret2
        exact ⟨by rw [HA.out, HT.out]; rfl, hb⟩

theorem find_any (es : List Ent) (v : Value) (p : ByteArray) (m : Int) (w : World) (h : Ents w v es) (hn : es.length ≤ 1048576) (hz : ∀ e ∈ es, e.path.size ≤ 1048576) (hp : p.size ≤ 1048576) (hm : Mx m w)
    (hs : es.Pairwise (fun x y => Pl.pc (bd x.path) (bd y.path) < 0)) :
    Calls Tryd.prog 41 #[v, .string p] w fun x w' =>
      x = .returned (.tuple #[.int .i64 (ahead es p), .bool (there es p)]) ∧ Below w.heap.size w w' := by
  have C := Lib.hid (search_any es v p m w h hn hz hp hm hs)
  clear h hz hs
  go_enter Tryd.func41, Tryd.ntmps41
  go_wp2_with (go_at_call 72; refine C.out.mono ?_; rintro y w1 ⟨rfl, hb1⟩)
  go_ret2
  exact ⟨rfl, hb1⟩

end Go.Proofs.YtpfmenepgejgdaaDoor
