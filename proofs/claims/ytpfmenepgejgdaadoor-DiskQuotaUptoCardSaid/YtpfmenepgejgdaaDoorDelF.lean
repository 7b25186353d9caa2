/-
  slices.DeleteFunc at a row of entries of the call's own: those that lie where a receiver works go. Own work.
-/
import Derived.Test.YtpfmenepgejgdaaDoorCopied
import Derived.Test.YtpfmenepgejgdaaDoorInside
import Derived.Test.YtpfmenepgejgdaaDoorWith3
namespace Go.Proofs.YtpfmenepgejgdaaDoor
open Go.RowKit

theorem run_clear_n {P : Program} (w : World) (t ty e : TypeId) (m : Nat) (zs : List Value) (z : Value) (ht : P.underlying t = some (.slice e)) (hz : ∀ w, (zeroValue e).run P w = .ok z w) (hzs : Builtin.zeroCells z.cells m = zs.toArray) (h1 : ∀ u ∈ zs, u.oneCell' = true) (hm : 0 < m)
    (g off c : Nat) (cur : List Value) (hg : w.heap[g]? = some (.cells cur.toArray e (0, 0))) (hfit : off + zs.length ≤ cur.length) :
    (Builtin.clear_ #[t] ty #[.slice (some ⟨g, off, none⟩) m c]).run P w = .ok (.tuple #[]) (w.setRow g (splice cur off zs).toArray) := by
  have hst := run_storeCells_at P g off e zs 0 cur.toArray w hg (by simpa using hfit) h1
  simp only [Nat.add_zero] at hst
  cases m with
  | zero => omega
  | succ m => simp [Builtin.clear_, run_underlying ht, hz, hzs, hst, splice]

/-- What stays. -/
def flt (es : List Ent) : List Ent := es.filter (fun e => !insideB e.path)
theorem flt_snoc {es : List Ent} {j : Nat} {x : Ent} (h : es[j]? = some x) : flt (es.take (j + 1)) = flt (es.take j) ++ (if insideB x.path then [] else [x]) := by
  unfold flt
  rw [List.take_add_one, h, List.filter_append]
  cases hx : insideB x.path <;> simp [hx]
theorem flt_all {es : List Ent} (h : ∀ e ∈ es, insideB e.path = false) : flt es = es := by
  unfold flt
  rw [List.filter_eq_self]
  intro e he
  rw [h e he]; rfl

def DelS (w : World) (g cap i j : Nat) (es : List Ent) : Prop :=
  ∃ cur : List Value, Bk w g 30 cur.toArray ∧ cur.length = cap * 3 ∧ (∀ u ∈ cur, NB u) ∧ (flt (es.take j)).length = i ∧ EC w (flt (es.take j)) (cur.take (i * 3)) ∧ EC w (es.drop j) ((cur.take (es.length * 3)).drop (j * 3))
section
variable {w w1 : World} {g cap i j : Nat} {es : List Ent}
theorem DelS.below (h : DelS w g cap i j es) (hb : Below w.heap.size w w1) : DelS w1 g cap i j es := by
  obtain ⟨cur, h1, h2, h3, h4, h5, h6⟩ := h
  exact ⟨cur, h1.after hb, h2, h3, h4, h5.below hb, h6.below hb⟩
theorem DelS.at_ (h : DelS w g cap i j es) {x : Ent} (hx : es[j]? = some x) (hc : es.length ≤ cap) : EntAt w g (j * 3) x := by
  obtain ⟨cur, h1, h2, h3, h4, h5, h6⟩ := h
  have hj : j < es.length := (List.getElem?_eq_some_iff.1 hx).1
  obtain ⟨u, e0, e1, e2, hu⟩ := h6.get (j := 0) (e := x) (by rw [List.getElem?_drop, Nat.add_zero]; exact hx)
  have key : ∀ t v, t < 3 → ((cur.take (es.length * 3)).drop (j * 3))[t]? = some v → w.cell? ⟨g, j * 3 + t, none⟩ = some v := by
    intro t v ht hv
    rw [List.getElem?_drop, List.getElem?_take, if_pos (by omega)] at hv
    rw [h1.cell]
    simpa using hv
  exact ⟨u, key 0 _ (by omega) (by simpa using e0), key 1 _ (by omega) (by simpa using e1), key 2 _ (by omega) (by simpa using e2), hu⟩
theorem DelS.slots (h : DelS w g cap i j es) (hi : i < cap) (p : ByteArray) (d : Bool) : (∃ a, w.cell? ⟨g, i * 3, none⟩ = some a) ∧ (∃ b, (w.setCell ⟨g, i * 3, none⟩ (.string p)).cell? ⟨g, i * 3 + 1, none⟩ = some b) ∧
    (∃ c, ((w.setCell ⟨g, i * 3, none⟩ (.string p)).setCell ⟨g, i * 3 + 1, none⟩ (.bool d)).cell? ⟨g, i * 3 + 2, none⟩ = some c) ∧ w.frozen? ⟨g, i * 3, none⟩ = false ∧ (w.setCell ⟨g, i * 3, none⟩ (.string p)).frozen? ⟨g, i * 3 + 1, none⟩ = false ∧
    ((w.setCell ⟨g, i * 3, none⟩ (.string p)).setCell ⟨g, i * 3 + 1, none⟩ (.bool d)).frozen? ⟨g, i * 3 + 2, none⟩ = false := by
  obtain ⟨cur, h1, h2, _⟩ := h
  have key : ∀ {W : World} {cs : Array Value} (t : Nat), Bk W g 30 cs → t < cs.size → ∃ a, W.cell? ⟨g, t, none⟩ = some a := fun t hB ht => ⟨_, by rw [hB.cell, Array.getElem?_eq_getElem ht]⟩
  have B1 := h1.set (i * 3) (.string p)
  have B2 := B1.set (i * 3 + 1) (.bool d)
  exact ⟨key _ h1 (by simp; omega), key _ B1 (by simp; omega), key _ B2 (by simp; omega), h1.free _, B1.free _, B2.free _⟩
theorem DelS.entAt (h : DelS w g cap i j es) {k : Nat} (hk : k < i) : ∃ e, EntAt w g (k * 3) e := by
  obtain ⟨cur, h1, h2, h3, h4, h5, h6⟩ := h
  obtain ⟨e, he⟩ : ∃ e, (flt (es.take j))[k]? = some e := ⟨_, List.getElem?_eq_getElem (by omega)⟩
  obtain ⟨u, e0, e1, e2, hu⟩ := h5.get he
  have key : ∀ t v, t < 3 → (cur.take (i * 3))[k * 3 + t]? = some v → w.cell? ⟨g, k * 3 + t, none⟩ = some v := by
    intro t v ht hv
    rw [List.getElem?_take, if_pos (by omega)] at hv
    rw [h1.cell]
    simpa using hv
  exact ⟨e, u, key 0 _ (by omega) e0, key 1 _ (by omega) e1, key 2 _ (by omega) e2, hu⟩
theorem DelS.skip (h : DelS w g cap i j es) {x : Ent} (hx : es[j]? = some x) (hi : insideB x.path = true) : DelS w g cap i (j + 1) es := by
  obtain ⟨cur, h1, h2, h3, h4, h5, h6⟩ := h
  have hj : j < es.length := (List.getElem?_eq_some_iff.1 hx).1
  have hf : flt (es.take (j + 1)) = flt (es.take j) := by rw [flt_snoc hx, hi]; simp
  refine ⟨cur, h1, h2, h3, by rw [hf]; exact h4, by rw [hf]; exact h5, ?_⟩
  rw [List.drop_eq_getElem_cons hj] at h6
  obtain ⟨u, t, ht, _, hr⟩ := h6
  have : (cur.take (es.length * 3)).drop ((j + 1) * 3) = t := by
    rw [show (j + 1) * 3 = j * 3 + 3 by omega, ← List.drop_drop, ht]
    rfl
  rw [this]
  exact hr
theorem set3_take {cur : List Value} {o : Nat} {a b c : Value} (h : o + 3 ≤ cur.length) : (((cur.set o a).set (o + 1) b).set (o + 2) c).take (o + 3) = cur.take o ++ [a, b, c] := by
  refine List.ext_getElem? fun t => ?_
  rcases Nat.lt_trichotomy t o with ht | ht | ht
  · rw [List.getElem?_take, if_pos (by omega), List.getElem?_set_ne (by omega), List.getElem?_set_ne (by omega), List.getElem?_set_ne (by omega), List.getElem?_append_left (by rw [List.length_take]; omega), List.getElem?_take, if_pos ht]
  · subst ht
    rw [List.getElem?_take, if_pos (by omega), List.getElem?_set_ne (by omega), List.getElem?_set_ne (by omega), List.getElem?_set_self (by omega), List.getElem?_append_right (by rw [List.length_take]; omega), List.length_take_of_le (by omega), Nat.sub_self]
    rfl
  · by_cases h1 : t = o + 1
    · subst h1
      rw [List.getElem?_take, if_pos (by omega), List.getElem?_set_ne (by omega), List.getElem?_set_self (by rw [List.length_set]; omega), List.getElem?_append_right (by rw [List.length_take]; omega), List.length_take_of_le (by omega), Nat.add_sub_cancel_left]
      rfl
    · by_cases h2 : t = o + 2
      · subst h2
        rw [List.getElem?_take, if_pos (by omega), List.getElem?_set_self (by rw [List.length_set, List.length_set]; omega), List.getElem?_append_right (by rw [List.length_take]; omega), List.length_take_of_le (by omega), Nat.add_sub_cancel_left]
        rfl
      · rw [List.getElem?_take, if_neg (by omega), List.getElem?_eq_none (by rw [List.length_append, List.length_take]; simp; omega)]
theorem set3_drop {cur : List Value} {o n k : Nat} {a b c : Value} (h : o + 3 ≤ k) : ((((cur.set o a).set (o + 1) b).set (o + 2) c).take n).drop k = (cur.take n).drop k := by
  refine List.ext_getElem? fun t => ?_
  rw [List.getElem?_drop, List.getElem?_drop, List.getElem?_take, List.getElem?_take]
  split
  · rw [List.getElem?_set_ne (by omega), List.getElem?_set_ne (by omega), List.getElem?_set_ne (by omega)]
  · rfl
theorem DelS.keep (h : DelS w g cap i j es) {x : Ent} (hx : es[j]? = some x) (hi : insideB x.path = false) (hij : i < j) (hc : es.length ≤ cap) {u : Value} (hu : Byt w u x.b) : DelS (put3 w g (i * 3) x.path x.dir u) g cap (i + 1) (j + 1) es := by
  obtain ⟨cur, h1, h2, h3, h4, h5, h6⟩ := h
  have hj : j < es.length := (List.getElem?_eq_some_iff.1 hx).1
  have hf : flt (es.take (j + 1)) = flt (es.take j) ++ [x] := by rw [flt_snoc hx, hi]; simp
  have hun : NB u := by obtain ⟨A, c, rfl, _⟩ := hu; exact fun _ => by simp
  have B3 : Bk (put3 w g (i * 3) x.path x.dir u) g 30 (((cur.set (i * 3) (.string x.path)).set (i * 3 + 1) (.bool x.dir)).set (i * 3 + 2) u).toArray := by
    have := ((h1.set (i * 3) (.string x.path)).set (i * 3 + 1) (.bool x.dir)).set (i * 3 + 2) u
    simpa [put3] using this
  have hbyt : ∀ v bs, Byt w v bs → Byt (put3 w g (i * 3) x.path x.dir u) v bs := by
    intro v bs hv
    have n1 : ∀ y ∈ cur.toArray, ∀ z : Int, y ≠ .int .u8 z := fun y hy => h3 y (by simpa using hy)
    have n2 : ∀ y ∈ cur.toArray.setIfInBounds (i * 3) (.string x.path), ∀ z : Int, y ≠ .int .u8 z := by
      intro y hy
      rcases Array.mem_or_eq_of_mem_setIfInBounds hy with hy | rfl
      · exact n1 y hy
      · simp
    have n3 : ∀ y ∈ (cur.toArray.setIfInBounds (i * 3) (.string x.path)).setIfInBounds (i * 3 + 1) (.bool x.dir), ∀ z : Int, y ≠ .int .u8 z := by
      intro y hy
      rcases Array.mem_or_eq_of_mem_setIfInBounds hy with hy | rfl
      · exact n2 y hy
      · simp
    exact ((hv.set h1 n1 _ _).set (h1.set _ _) n2 _ _).set ((h1.set _ _).set _ _) n3 _ _
  have hil : i * 3 + 3 ≤ cur.length := by omega
  refine ⟨_, B3, by simpa using h2, ?_, by rw [hf, List.length_append, h4]; rfl, ?_, ?_⟩
  · intro y hy
    rcases List.mem_or_eq_of_mem_set hy with hy | rfl
    · rcases List.mem_or_eq_of_mem_set hy with hy | rfl
      · rcases List.mem_or_eq_of_mem_set hy with hy | rfl
        · exact h3 y hy
        · exact fun _ => by simp
      · exact fun _ => by simp
    · exact hun
  · rw [hf, show (i + 1) * 3 = i * 3 + 3 by omega, set3_take hil]
    exact EC.app (EC.map hbyt h5) (EC.one (hbyt _ _ hu))
  · rw [set3_drop (by omega)]
    refine EC.map hbyt ?_
    rw [List.drop_eq_getElem_cons hj] at h6
    obtain ⟨u', t, ht, _, hr⟩ := h6
    have : (cur.take (es.length * 3)).drop ((j + 1) * 3) = t := by
      rw [show (j + 1) * 3 = j * 3 + 3 by omega, ← List.drop_drop, ht]
      rfl
    rw [this]
    exact hr
end

def DelFPost (base : Nat) (es : List Ent) (v : Value) (w : World) (x : Ending) (w' : World) : Prop := ∃ v', x = .returned v' ∧ RowE w' base v' (flt es) ∧ Below base w w' ∧ w.grownBy w' v.ownBlock
theorem grown_below {w w1 w2 : World} {row : Option Nat} (h : w.grownBy w1 row) (hb : Below w1.heap.size w1 w2) : w.grownBy w2 row :=
  ⟨hb.os.trans h.os, hb.tape.trans h.tape, hb.output.trans h.output, Nat.le_trans h.size hb.size, fun k hk hne => (hb.block k (Nat.lt_of_lt_of_le hk h.size)).trans (h.block k hk hne)⟩
theorem grown_set {w w1 : World} {g : Nat} (h : w.grownBy w1 (some g)) (o : Nat) (u : Value) : w.grownBy (w1.setCell ⟨g, o, none⟩ u) (some g) :=
  ⟨h.os, h.tape, h.output, by have := h.size; simpa [World.setCell] using this, fun k hk hne => (Below.heap_setCell w1 _ _ k (fun e => hne (by rw [e]))).trans (h.block k hk hne)⟩

set_option maxHeartbeats 2000000 in
set_option maxRecDepth 100000 in
theorem deleteF_any (base : Nat) (es : List Ent) (v : Value) (m : Int) (w : World) (h : RowE w base v es) (hn : es.length ≤ 1048576) (hz : ∀ e ∈ es, e.path.size ≤ 1048576) (hm : Mx m w) (hbs : base ≤ w.heap.size) (hmb : 0 < base) :
    Calls Tryd.prog 56 #[v, .func (.func 57) #[] #[]] w (DelFPost base es v w) := by
  have eg := enters_of Tryd.func57 (by kernel_rfl) rfl
  have C0 := Lib.hid (idxE_any es v m w h.ents hn hz hm)
  obtain ⟨cs, hown, hcs⟩ := id h
  by_cases hall : ∀ e ∈ es, insideB e.path = false
  · obtain ⟨A, c, rfl⟩ := hown.form
    have HA := Lib.hid hall
    have HR := Lib.hid h
    clear hall h hown hcs hz
    go_enter Tryd.func56, Tryd.ntmps56
    go_wp2_with (go_at_call 78; refine C0.out.mono ?_; rintro x w1 ⟨⟨i, rfl, hi⟩, hb1⟩; obtain rfl : i = -1 := (by rcases hi with hi | ⟨k, e, _, he, hin, _⟩; exact hi.1; rw [HA.out e (List.mem_of_getElem? he)] at hin; cases hin); clear hi)
    go_ret
    obtain ⟨cs, h1, h2⟩ := HR.out
    exact ⟨_, rfl, by rw [flt_all HA.out]; exact ⟨cs, h1.below hb1, h2.below hb1⟩, hb1.mono hbs, grown_below (grown_refl w _) hb1⟩
  · have hpos : 0 < es.length := by
      rcases Nat.eq_zero_or_pos es.length with h0 | h0
      · have := List.eq_nil_of_length_eq_zero h0
        subst this
        exact absurd (by simp) hall
      · exact h0
    obtain ⟨g, cap, cur, rfl, hbg, hBg, hnc, hcm, hcl, htk, hq⟩ : ∃ g cap cur, v = .slice (some ⟨g, 0, none⟩) es.length cap ∧ base ≤ g ∧ Bk w g 30 cur ∧ es.length ≤ cap ∧ cap ≤ maxLen ∧ cur.size = cap * 3 ∧ cur.toList.take (es.length * 3) = cs ∧ ∀ u ∈ cur, NB u := by
      rcases hown.2 with ⟨_, h0⟩ | ⟨g, cap, cur, h⟩
      · omega
      · exact ⟨g, cap, cur, h⟩
    unfold maxLen at hcm
    have HALL := Lib.hid hall
    have HZ := Lib.hid hz
    have ST : Hid (∀ k x w1, Below w.heap.size w w1 → es[k]? = some x → insideB x.path = true → (∀ e ∈ es.take k, insideB e.path = false) → DelS w1 g cap k (k + 1) es) := by
      have : ∀ k x w1, Below w.heap.size w w1 → es[k]? = some x → insideB x.path = true → (∀ e ∈ es.take k, insideB e.path = false) → DelS w1 g cap k (k + 1) es := by
        intro k x w1 hb hx hin hk
        have hkl := (List.getElem?_eq_some_iff.1 hx).1
        have e1 : flt (es.take k) = es.take k := flt_all hk
        have h2 := hcs
        rw [← List.take_append_drop k es] at h2
        obtain ⟨a, b⟩ := h2.split
        rw [List.length_take_of_le (by omega)] at a b
        have D0 : DelS w g cap k k es := ⟨cur.toList, by rw [Array.toArray_toList]; exact hBg, by simpa using hcl, fun u hu => hq u (by simpa using hu), by rw [e1, List.length_take_of_le (by omega)], by rw [e1]; rw [← htk, List.take_take] at a; rwa [Nat.min_eq_left (by omega)] at a, by rw [htk]; exact b⟩
        exact (D0.skip hx hin).below hb
      exact this
    have hgl := hBg.lt
    clear hall hz h hown hcs htk hq hcl hBg
    go_enter Tryd.func56, Tryd.ntmps56
    go_wp2_with (go_at_call 78; refine C0.out.mono ?_; rintro x w1 ⟨⟨i, rfl, hi⟩, hb1⟩; obtain ⟨k, hik, hD, hkl⟩ : ∃ k : Nat, i = k ∧ Hid (DelS w1 g cap k (k + 1) es) ∧ k < es.length := (by rcases hi with hi | ⟨k, e, hik, he, hin, hk⟩; exact absurd hi.2 HALL.out; exact ⟨k, hik, ST.out k e w1 hb1 he hin hk, (List.getElem?_eq_some_iff.1 he).1⟩); subst hik; clear hi; have hkm : ((k : Int) == -1) = false := beq_eq_false_iff_ne.2 (by omega))
    go_loopw [5, 6] (fun s5 s6 wr => ∃ i j : Nat, s5 = .int .i64 i ∧ s6 = .int .i64 j ∧ i < j ∧ j ≤ es.length ∧ Hid (DelS wr g cap i j es) ∧ Below base w wr ∧ w.grownBy wr (some g)) (fun _ s6 _ => es.length - (intOf s6).toNat)
    case atStart => exact ⟨k, k + 1, rfl, by go_num, by omega, hkl, hD, hb1.mono hbs, grown_below (grown_refl w _) hb1⟩
    case round =>
      obtain ⟨i, j, rfl, rfl, hij, hj, hS, hbr, hgr⟩ := hrel
      clear hD hkl
      by_cases hlt : j < es.length
      · obtain ⟨x, hjx⟩ : ∃ x, es[j]? = some x := ⟨_, List.getElem?_eq_getElem hlt⟩
        obtain ⟨u, c0, c1, c2, hu⟩ := hS.out.at_ hjx hnc
        have hmr : Mx m wr := (hbr.cell (p := ⟨0, 0, none⟩) hmb).trans hm
        have C := Lib.hid (fun w1 (h : Below wr.heap.size wr w1) => inE_any x (.agg #[.string x.path, .bool x.dir, u]) m w1 ⟨u, rfl, hu.below h⟩ (HZ.out x (List.mem_of_getElem? hjx)) (hmr.below h))
        have HU := Lib.hid hu
        obtain ⟨A1, d1, rfl, _⟩ := hu
        have HX := Lib.hid hjx
        clear hjx hmr
        have hsz := hgr.size
        have hbA := (Below.refl wr.heap.size wr).alloc (Nat.le_refl _) (.cells #[.string x.path, .bool x.dir, .slice A1 x.b.length d1] 30)
        have K := Bk.new wr 30 #[.string x.path, .bool x.dir, .slice A1 x.b.length d1]
        cases hin : insideB x.path with
        | true =>
          have HG := Lib.hid hin
          clear hin
          go_wp2_with (go_at_call 57; (with_reducible refine (C.out _ hbA).mono ?_); rintro y w2 ⟨rfl, hb2⟩; rw [HG.out])
          have hb3 := hbA.trans (hb2.mono hbA.size)
          go_roundw
          case rel => exact ⟨i, j + 1, rfl, by go_num, by omega, by omega, (hS.out.below hb3).skip HX.out HG.out, hbr.trans (hb3.mono (by omega)), grown_below hgr hb3⟩
          case measure => simp [intOf]; omega
        | false =>
          have HG := Lib.hid hin
          clear hin
          go_wp2_with (go_at_call 57; (with_reducible refine (C.out _ hbA).mono ?_); rintro y w2 ⟨rfl, hb2⟩; rw [HG.out]; have k2 := (K.after hb2).cell; have hb3 := hbA.trans (hb2.mono hbA.size); have HS3 := Lib.hid (hS.out.below hb3); obtain ⟨⟨_, t0⟩, ⟨_, t1⟩, ⟨_, t2⟩, t3, t4, t5⟩ := HS3.out.slots (show i < cap by omega) x.path x.dir)
          have KP := Lib.hid (HS3.out.keep HX.out HG.out hij hnc (HU.out.below hb3))
          have hb4 : Below base w (put3 w2 g (i * 3) x.path x.dir (.slice A1 x.b.length d1)) := put3_below (hbr.trans (hb3.mono (by omega))) hbg _ _ _
          have hg4 : w.grownBy (put3 w2 g (i * 3) x.path x.dir (.slice A1 x.b.length d1)) (some g) := grown_set (grown_set (grown_set (grown_below hgr hb3) _ _) _ _) _ _
          have HP : Hid (put3 w2 g (i * 3) x.path x.dir (.slice A1 x.b.length d1) = ((w2.setCell ⟨g, i * 3, none⟩ (.string x.path)).setCell ⟨g, i * 3 + 1, none⟩ (.bool x.dir)).setCell ⟨g, i * 3 + 2, none⟩ (.slice A1 x.b.length d1)) := (rfl : put3 w2 g (i * 3) x.path x.dir (.slice A1 x.b.length d1) = ((w2.setCell ⟨g, i * 3, none⟩ (.string x.path)).setCell ⟨g, i * 3 + 1, none⟩ (.bool x.dir)).setCell ⟨g, i * 3 + 2, none⟩ (.slice A1 x.b.length d1))
          go_roundw
          case rel => rw [HP.out] at KP hb4 hg4; exact ⟨i + 1, j + 1, by go_num, by go_num, by omega, by omega, KP, hb4, hg4⟩
          case measure => simp [intOf]; omega
      · obtain rfl : es.length = j := by omega
        have hcl : i < cap := by omega
        obtain ⟨cur', h1, h2, h3, h4, h5, _⟩ := hS.out
        obtain ⟨zs, hzs⟩ : ∃ zs : List Value, Builtin.zeroCells ez.cells (es.length - i) = zs.toArray := ⟨_, Array.toArray_toList.symm⟩
        have hzl : zs.length = (es.length - i) * 3 := by
          have := congrArg Array.size hzs
          rw [size_zeroCells, List.size_toArray] at this
          exact this.symm
        have hzq : ∀ u ∈ zs, NB u ∧ u.oneCell' = true := by
          intro u hu
          have h6 : u ∈ Builtin.zeroCells ez.cells (es.length - i) := by rw [hzs]; simpa using hu
          have h7 := mem_zeroCells (by decide) h6
          refine ⟨ez_q u h7, ?_⟩
          have h8 : u ∈ [Value.string ⟨#[]⟩, .bool false, .slice none 0 0] := by simpa [ez, Value.cells] using h7
          exact (row3q _ _ _ _ _ u h8).1
        have hzv : ∀ w, (zeroValue 30).run Tryd.prog w = .ok ez w := fun _ => by kernel_rfl
        have HCl := Lib.hid (fun ty c => run_clear_n wr 22 ty 30 (es.length - i) zs ez Tryd.underlying22 hzv hzs (fun u hu => (hzq u hu).2) (by omega) g (i * 3) c cur' h1 (by omega))
        have FIN : Hid (RowE (wr.setRow g (splice cur' (i * 3) zs).toArray) base (.slice (some ⟨g, 0, none⟩) i cap) (flt es)) := by
          have hB : Bk (wr.setRow g (splice cur' (i * 3) zs).toArray) g 30 (splice cur' (i * 3) zs).toArray := setRow_heap wr g _ _ _ _ h1
          have hbyt : ∀ v bs, Byt wr v bs → Byt (wr.setRow g (splice cur' (i * 3) zs).toArray) v bs := fun v bs hv => hv.grownQ (row := some g) (grown_setRow (grown_refl wr _) (.inl rfl) _) (fun g' e => by injection e with e; subst e; exact ⟨_, _, h1, fun u hu => h3 u (by simpa using hu)⟩)
          rw [List.take_length] at h4 h5
          have : RowE (wr.setRow g (splice cur' (i * 3) zs).toArray) base (.slice (some ⟨g, 0, none⟩) i cap) (flt es) := by
            refine ⟨cur'.take (i * 3), ⟨by rw [List.length_take, h4]; omega, .inr ⟨g, cap, _, by rw [h4], hbg, hB, by omega, by unfold maxLen; omega, ?_, ?_, ?_⟩⟩, EC.map hbyt h5⟩
            · rw [List.size_toArray, length_splice _ _ _ (by omega), h2]
            · rw [h4]
              unfold splice
              exact List.take_left' (by rw [List.length_take]; omega)
            · intro u hu
              rw [List.mem_toArray] at hu
              unfold splice at hu
              rcases List.mem_append.1 hu with hu | hu
              · exact h3 u (List.mem_of_mem_take hu)
              · rcases List.mem_append.1 hu with hu | hu
                · exact (hzq u hu).1
                · exact h3 u (List.mem_of_mem_drop hu)
          exact this
        have hbF : Below base w (wr.setRow g (splice cur' (i * 3) zs).toArray) := below_setRow hbr hbg _
        have hgF : w.grownBy (wr.setRow g (splice cur' (i * 3) zs).toArray) (some g) := grown_setRow hgr (.inl rfl) _
        have HBF := Lib.hid hbF
        have HGF := Lib.hid hgF
        clear hbF hgF h1 h2 h3 h4 h5 hzs hzl hzq hzv hS
        go_wp2_with ((refine list_clear_run rfl (.tmp 38) 22 rfl (.slice (some ⟨g, i * 3, none⟩) (es.length - i) (cap - i)) (by rfl) (HCl.out _ _) ?_); intro w3 H3)
        go_ret
        exact ⟨_, rfl, by rw [H3.out]; exact FIN.out, by rw [H3.out]; exact HBF.out, by rw [H3.out]; exact HGF.out⟩
end Go.Proofs.YtpfmenepgejgdaaDoor
