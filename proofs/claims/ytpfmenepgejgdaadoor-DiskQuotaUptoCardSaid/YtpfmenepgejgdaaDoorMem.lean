/-
  HOW ENTRIES AND BYTES LIE IN MEMORY. Own work.
-/
import Derived.Test.YtpfmenepgejgdaaDoorPath
import Derived.Deep.RegionHeld3
namespace Go.Proofs.YtpfmenepgejgdaaDoor
open Go.RowKit

structure Ent where
  path : ByteArray
  dir : Bool
  b : List UInt8

/-- A slice of bytes that reads as bs. -/
def Byt (w : World) (v : Value) (bs : List UInt8) : Prop :=
  ∃ A c, v = .slice A bs.length c ∧ bs.length ≤ c ∧ (A = none → c = 0) ∧
    (0 < bs.length → ∃ b o, A = some ⟨b, o, none⟩ ∧ ∀ j x, bs[j]? = some x → w.cell? ⟨b, o + j, none⟩ = some (.int .u8 (x.toNat : Int)))
theorem Byt.below {w w1 : World} {v : Value} {bs : List UInt8} (h : Byt w v bs) (hb : Below w.heap.size w w1) : Byt w1 v bs := by
  obtain ⟨A, c, h1, h2, h3, h4⟩ := h
  refine ⟨A, c, h1, h2, h3, fun hn => ?_⟩
  obtain ⟨b, o, e, h5⟩ := h4 hn
  exact ⟨b, o, e, fun j x hj => cell_below hb (h5 j x hj)⟩
theorem Byt.nil (w : World) : Byt w (.slice none 0 0) [] := ⟨none, 0, rfl, Nat.le_refl _, fun _ => rfl, fun h => absurd h (by simp)⟩

/-- An entry's cells. -/
def EntAt (w : World) (b o : Nat) (e : Ent) : Prop := ∃ u, w.cell? ⟨b, o, none⟩ = some (.string e.path) ∧ w.cell? ⟨b, o + 1, none⟩ = some (.bool e.dir) ∧ w.cell? ⟨b, o + 2, none⟩ = some u ∧ Byt w u e.b
theorem EntAt.below {w w1 : World} {b o : Nat} {e : Ent} (h : EntAt w b o e) (hb : Below w.heap.size w w1) : EntAt w1 b o e := by
  obtain ⟨u, h1, h2, h3, h4⟩ := h
  exact ⟨u, cell_below hb h1, cell_below hb h2, cell_below hb h3, h4.below hb⟩

/-- A slice of entries that reads as es. -/
def Ents (w : World) (v : Value) (es : List Ent) : Prop :=
  ∃ A c, v = .slice A es.length c ∧ es.length ≤ c ∧ (A = none → c = 0) ∧
    (0 < es.length → ∃ b o, A = some ⟨b, o, none⟩ ∧ ∀ j e, es[j]? = some e → EntAt w b (o + j * 3) e)
theorem Ents.below {w w1 : World} {v : Value} {es : List Ent} (h : Ents w v es) (hb : Below w.heap.size w w1) : Ents w1 v es := by
  obtain ⟨A, c, h1, h2, h3, h4⟩ := h
  refine ⟨A, c, h1, h2, h3, fun hn => ?_⟩
  obtain ⟨b, o, e, h5⟩ := h4 hn
  exact ⟨b, o, e, fun j x hj => (h5 j x hj).below hb⟩

/-- An entry by value. -/
def EntV (w : World) (v : Value) (e : Ent) : Prop := ∃ u, v = .agg #[.string e.path, .bool e.dir, u] ∧ Byt w u e.b
theorem EntV.below {w w1 : World} {v : Value} {e : Ent} (h : EntV w v e) (hb : Below w.heap.size w w1) : EntV w1 v e := by
  obtain ⟨u, h1, h2⟩ := h
  exact ⟨u, h1, h2.below hb⟩

/-- A tree by value. -/
def TreeV (w : World) (v : Value) (es : List Ent) : Prop := ∃ u, v = .agg #[u] ∧ Ents w u es
theorem TreeV.below {w w1 : World} {v : Value} {es : List Ent} (h : TreeV w v es) (hb : Below w.heap.size w w1) : TreeV w1 v es := by
  obtain ⟨u, h1, h2⟩ := h
  exact ⟨u, h1, h2.below hb⟩

/-- All bytes. -/
def cnt (es : List Ent) : Nat := (es.map (·.b.length)).sum
theorem cnt_snoc {es : List Ent} {k : Nat} {e : Ent} (h : es[k]? = some e) : cnt (es.take (k + 1)) = cnt (es.take k) + e.b.length := by
  unfold cnt
  rw [List.take_add_one, h]
  simp
theorem cnt_take_le (es : List Ent) (k : Nat) : cnt (es.take k) ≤ cnt es := by
  unfold cnt
  conv => rhs; rw [← List.take_append_drop k es]
  rw [List.map_append, List.sum_append]
  omega

theorem count_any (es : List Ent) (v : Value) (w : World) (h : Ents w v es) (hn : es.length ≤ 1048576) (hc : cnt es ≤ 1048576) :
    Calls Tryd.prog 37 #[v] w fun e w' => e = .returned (.int .i64 (cnt es)) ∧ Below w.heap.size w w' := by
  obtain ⟨A, c, rfl, hlc, hnone, hcell⟩ := h
  go_enter Tryd.func37, Tryd.ntmps37
  go_wp2
  go_loopw [3, 8] (fun s i wr => ∃ k : Nat, k ≤ es.length ∧ i = .int .i64 k ∧ s = .int .i64 (cnt (es.take k)) ∧ Below w.heap.size w wr) (fun _ i _ => es.length - (intOf i).toNat)
  case atStart => exact ⟨0, Nat.zero_le _, rfl, rfl, Below.refl _ _⟩
  case round =>
    obtain ⟨k, hk, rfl, rfl, hb⟩ := hrel
    by_cases hlt : k < es.length
    · obtain ⟨e, hke⟩ : ∃ e, es[k]? = some e := ⟨_, List.getElem?_eq_getElem hlt⟩
      obtain ⟨b, o, rfl, hcel⟩ := hcell (by omega)
      obtain ⟨u, c0, c1, c2, B, cb, rfl, hb1, hb2, hb3⟩ := (hcel k e hke).below hb
      have S := Lib.hid (cnt_snoc hke)
      have hle := cnt_take_le es (k + 1)
      rw [S.out] at hle
      clear hke hcel
      go_wp2
      go_roundw
      case rel => exact ⟨k + 1, hlt, by go_num, by rw [S.out]; go_num, hb.trans (((Below.refl _ _).alloc (Nat.le_refl _) _).mono hb.size)⟩
      case measure => simp [intOf]; omega
    · obtain rfl : es.length = k := by omega
      go_wp2
      go_ret
      exact ⟨by rw [List.take_length]; rfl, hb⟩


/-! ### rows of the call's own -/
def vals (bs : List UInt8) : List Value := bs.map fun x => .int .u8 (x.toNat : Int)
theorem vals_get {bs : List UInt8} {j : Nat} {x : UInt8} (h : bs[j]? = some x) : (vals bs)[j]? = some (.int .u8 (x.toNat : Int)) := by
  rw [vals, List.getElem?_map, h]
  rfl
theorem own_form {w : World} {base : Nat} {e : TypeId} {size : Nat} {v : Value} {n : Nat} {xs : List Value} (h : w.ownsRow base e size v n xs) :
    ∃ A c, v = .slice A n c ∧ n ≤ c ∧ (A = none → c = 0) ∧ (0 < n → ∃ g, A = some ⟨g, 0, none⟩ ∧ ∀ j u, xs[j]? = some u → w.cell? ⟨g, 0 + j, none⟩ = some u) := by
  have h0 := h
  obtain ⟨hl, h⟩ := h
  rcases h with ⟨rfl, rfl⟩ | ⟨g, cap, cur, rfl, hb, hh, hn, hm, hs, ht⟩
  · exact ⟨none, 0, rfl, Nat.le_refl _, fun _ => rfl, fun h => absurd h (by omega)⟩
  · refine ⟨some ⟨g, 0, none⟩, cap, rfl, hn, (fun e => by cases e), fun _ => ⟨g, rfl, fun j u hj => ?_⟩⟩
    have := h0.cells (g := g) rfl j u hj
    rwa [Addr.add_lit] at this
theorem byt_of_own {w : World} {base : Nat} {e : TypeId} {v : Value} {bs : List UInt8} (h : w.ownsRow base e 1 v bs.length (vals bs)) : Byt w v bs := by
  obtain ⟨A, c, rfl, h1, h2, h3⟩ := own_form h
  refine ⟨A, c, rfl, h1, h2, fun hn => ?_⟩
  obtain ⟨g, rfl, h4⟩ := h3 hn
  exact ⟨g, 0, rfl, fun j x hj => h4 j _ (vals_get hj)⟩

/-- Entries' cells in a row. -/
def EC (w : World) : List Ent → List Value → Prop
  | [], cs => cs = []
  | e :: r, cs => ∃ u t, cs = .string e.path :: .bool e.dir :: u :: t ∧ Byt w u e.b ∧ EC w r t
theorem EC.len {w : World} : ∀ {es : List Ent} {cs : List Value}, EC w es cs → cs.length = es.length * 3
  | [], _, h => by rw [show _ = [] from h]; rfl
  | e :: r, _, h => by
    obtain ⟨u, t, rfl, _, h⟩ := h
    have := EC.len h
    simp only [List.length_cons]
    omega
theorem EC.below {w w1 : World} (hb : Below w.heap.size w w1) : ∀ {es : List Ent} {cs : List Value}, EC w es cs → EC w1 es cs
  | [], _, h => h
  | e :: r, _, h => by
    obtain ⟨u, t, rfl, hu, h⟩ := h
    exact ⟨u, t, rfl, hu.below hb, EC.below hb h⟩
theorem EC.app {w : World} : ∀ {a b : List Ent} {ca cb : List Value}, EC w a ca → EC w b cb → EC w (a ++ b) (ca ++ cb)
  | [], _, _, _, h, h2 => by rw [show _ = [] from h]; exact h2
  | e :: r, _, _, _, h, h2 => by
    obtain ⟨u, t, rfl, hu, h⟩ := h
    exact ⟨u, _, rfl, hu, EC.app h h2⟩
theorem EC.one {w : World} {e : Ent} {u : Value} (h : Byt w u e.b) : EC w [e] [.string e.path, .bool e.dir, u] := ⟨u, [], rfl, h, rfl⟩
theorem EC.get {w : World} : ∀ {es : List Ent} {cs : List Value} {j : Nat} {e : Ent}, EC w es cs → es[j]? = some e →
    ∃ u, cs[j * 3]? = some (.string e.path) ∧ cs[j * 3 + 1]? = some (.bool e.dir) ∧ cs[j * 3 + 2]? = some u ∧ Byt w u e.b
  | [], _, _, _, _, h => by simp at h
  | x :: r, _, 0, e, h, hj => by
    obtain ⟨u, t, rfl, hu, _⟩ := h
    simp at hj
    subst hj
    exact ⟨u, rfl, rfl, rfl, hu⟩
  | x :: r, _, j + 1, e, h, hj => by
    obtain ⟨u, t, rfl, _, h⟩ := h
    obtain ⟨v, h1, h2, h3, h4⟩ := EC.get h (by simpa using hj)
    refine ⟨v, ?_, ?_, ?_, h4⟩
    · rw [show (j + 1) * 3 = j * 3 + 3 by omega]; simpa using h1
    · rw [show (j + 1) * 3 + 1 = (j * 3 + 1) + 3 by omega]; simpa using h2
    · rw [show (j + 1) * 3 + 2 = (j * 3 + 2) + 3 by omega]; simpa using h3
theorem EC.cell1 {w : World} : ∀ {es : List Ent} {cs : List Value}, EC w es cs → ∀ u ∈ cs, u.oneCell' = true
  | [], _, h => by rw [show _ = [] from h]; simp
  | e :: r, _, h => by
    obtain ⟨u, t, rfl, hu, h⟩ := h
    obtain ⟨A, c, rfl, _⟩ := hu
    intro x hx
    rcases List.mem_cons.1 hx with rfl | hx
    · rfl
    rcases List.mem_cons.1 hx with rfl | hx
    · rfl
    rcases List.mem_cons.1 hx with rfl | hx
    · rfl
    exact EC.cell1 h x hx

theorem ents_of_own {w : World} {base : Nat} {e : TypeId} {v : Value} {es : List Ent} {cs : List Value} (h : w.ownsRow base e 3 v es.length cs) (hc : EC w es cs) : Ents w v es := by
  obtain ⟨A, c, rfl, h1, h2, h3⟩ := own_form h
  refine ⟨A, c, rfl, h1, h2, fun hn => ?_⟩
  obtain ⟨g, rfl, h4⟩ := h3 hn
  refine ⟨g, 0, rfl, fun j x hj => ?_⟩
  obtain ⟨u, c0, c1, c2, hu⟩ := hc.get hj
  exact ⟨u, h4 _ _ c0, by have := h4 _ _ c1; rwa [← Nat.add_assoc] at this, by have := h4 _ _ c2; rwa [← Nat.add_assoc] at this, hu⟩

/-- A row that is read, as cells. -/
theorem EC.of_at {w : World} {b : Nat} : ∀ {es : List Ent} {o : Nat}, (∀ j e, es[j]? = some e → EntAt w b (o + j * 3) e) →
    ∃ cs, EC w es cs ∧ ∀ j u, cs[j]? = some u → w.cell? ⟨b, o + j, none⟩ = some u
  | [], _, _ => ⟨[], rfl, fun j u h => by simp at h⟩
  | e :: r, o, h => by
    obtain ⟨u, c0, c1, c2, hu⟩ := h 0 e rfl
    obtain ⟨cs, hcs, hat⟩ := EC.of_at (es := r) (o := o + 3) (fun j x hj => by
      have := h (j + 1) x (by simpa using hj)
      rwa [show o + (j + 1) * 3 = o + 3 + j * 3 by omega] at this)
    refine ⟨_, ⟨u, cs, rfl, hu, hcs⟩, fun j x hj => ?_⟩
    match j, hj with
    | 0, hj => simp at hj; rw [← hj]; simpa using c0
    | 1, hj => simp at hj; rw [← hj]; simpa using c1
    | 2, hj => simp at hj; rw [← hj]; simpa using c2
    | j + 3, hj =>
      have := hat j x (by simpa using hj)
      rwa [show o + (j + 3) = o + 3 + j by omega]

/-! ### a block that is known whole -/
def Bk (w : World) (g : Nat) (t : TypeId) (cs : Array Value) : Prop := w.heap[g]? = some (.cells cs t (0, 0))
theorem Bk.lt {w : World} {g : Nat} {t : TypeId} {cs : Array Value} (h : Bk w g t cs) : g < w.heap.size := by
  rcases Nat.lt_or_ge g w.heap.size with hl | hg
  · exact hl
  · unfold Bk at h
    rw [Array.getElem?_eq_none hg] at h
    cases h
theorem Bk.cell {w : World} {g : Nat} {t : TypeId} {cs : Array Value} (h : Bk w g t cs) (i : Nat) : w.cell? ⟨g, i, none⟩ = cs[i]? := cell_of_row w g i cs t (0, 0) h
theorem Bk.free {w : World} {g : Nat} {t : TypeId} {cs : Array Value} (h : Bk w g t cs) (i : Nat) : w.frozen? ⟨g, i, none⟩ = false := by
  unfold Bk at h
  simp [World.frozen?, h]
theorem Bk.new (w : World) (t : TypeId) (cs : Array Value) : Bk (w.alloc (.cells cs t)) w.heap.size t cs := heap_alloc_new w _
theorem Bk.new1 (w : World) (o : Obj) (t : TypeId) (cs : Array Value) : Bk ((w.alloc o).alloc (.cells cs t)) (w.heap.size + 1) t cs := by
  have := Bk.new (w.alloc o) t cs
  rwa [World.size_alloc] at this
theorem Bk.new2 (w : World) (o o2 : Obj) (t : TypeId) (cs : Array Value) : Bk (((w.alloc o).alloc o2).alloc (.cells cs t)) (w.heap.size + 2) t cs := by
  have := Bk.new1 (w.alloc o) o2 t cs
  rwa [World.size_alloc] at this
theorem Bk.alloc {w : World} {g : Nat} {t : TypeId} {cs : Array Value} (h : Bk w g t cs) (o : Obj) : Bk (w.alloc o) g t cs := (Below.heap_alloc w o g h.lt).trans h
theorem Bk.below {w w1 : World} {g : Nat} {t : TypeId} {cs : Array Value} (h : Bk w g t cs) {B : Nat} (hb : Below B w w1) (hg : g < B) : Bk w1 g t cs := (hb.block g hg).trans h
theorem Bk.after {w w1 : World} {g : Nat} {t : TypeId} {cs : Array Value} (h : Bk w g t cs) (hb : Below w.heap.size w w1) : Bk w1 g t cs := h.below hb h.lt
theorem Bk.drewN {w : World} {g : Nat} {t : TypeId} {cs : Array Value} (h : Bk w g t cs) (n : Nat) : Bk (w.drewN n) g t cs := h
theorem Bk.set {w : World} {g : Nat} {t : TypeId} {cs : Array Value} (h : Bk w g t cs) (i : Nat) (u : Value) : Bk (w.setCell ⟨g, i, none⟩ u) g t (cs.setIfInBounds i u) := by
  unfold Bk at h ⊢
  simp [World.setCell, Array.getElem?_modify, h]
theorem Bk.far {w : World} {g : Nat} {t : TypeId} {cs : Array Value} (h : Bk w g t cs) {p : Addr} (hp : g ≠ p.block) (u : Value) : Bk (w.setCell p u) g t cs := (Below.heap_setCell w p u g hp).trans h

/-- A store into a block without bytes. -/
theorem Byt.set {w : World} {v : Value} {bs : List UInt8} {g : Nat} {t : TypeId} {cs : Array Value} (h : Byt w v bs) (B : Bk w g t cs) (hn : ∀ u ∈ cs, ∀ x : Int, u ≠ .int .u8 x) (j : Nat) (u : Value) :
    Byt (w.setCell ⟨g, j, none⟩ u) v bs := by
  obtain ⟨A, c, h1, h2, h3, h4⟩ := h
  refine ⟨A, c, h1, h2, h3, fun hp => ?_⟩
  obtain ⟨b, o, e, h5⟩ := h4 hp
  refine ⟨b, o, e, fun i x hi => ?_⟩
  have hc := h5 i x hi
  have hne : g ≠ b := by
    rintro rfl
    rw [B.cell] at hc
    exact hn _ (Array.mem_of_getElem? hc) _ rfl
  rw [World.cell?_setCell_far w _ _ u hne]
  exact hc

theorem Bk.grown {w w1 : World} {g : Nat} {t : TypeId} {cs : Array Value} (h : Bk w g t cs) {row : Option Nat} (hg : w.grownBy w1 row) (hne : some g ≠ row) : Bk w1 g t cs := (hg.block g h.lt hne).trans h
end Go.Proofs.YtpfmenepgejgdaaDoor
