/-
  THE PACKAGE disk: how a disk lies in memory; a change with bytes of its own; small methods. Own work.
-/
import Derived.Test.YtpfmenepgejgdaaDoorLaw4
import Derived.Test.YtpfmenepgejgdaaDoorRowQ
import Derived.Test.YtpfmenepgejgdaaDoorClean
namespace Go.Proofs.YtpfmenepgejgdaaDoor
open Go.RowKit

/-- No byte, no bool. -/
def NBB (u : Value) : Prop := NB u ∧ ∀ b : Bool, u ≠ .bool b
theorem NBB.nb {u : Value} (h : NBB u) : NB u := h.1
theorem BlkQ.mono {q q' : Value → Prop} {w : World} {row : Option Nat} (h : BlkQ q w row) (hq : ∀ u, q u → q' u) : BlkQ q' w row := fun g hg => by
  obtain ⟨t, cs, h1, h2⟩ := h g hg
  exact ⟨t, cs, h1, fun u hu => hq u (h2 u hu)⟩
/-- Entries behind a write into a row without bytes and bools. -/
theorem EntAt.grownQ {w w1 : World} {b o : Nat} {e : Ent} {row : Option Nat} (h : EntAt w b o e) (hg : w.grownBy w1 row) (hr : BlkQ NBB w row) : EntAt w1 b o e := by
  obtain ⟨u, c0, c1, c2, hu⟩ := h
  have hlt : b < w.heap.size := World.block_lt_of_cell? w _ c0
  have hne : some b ≠ row := by
    intro e
    obtain ⟨t, cs, hB, hq⟩ := hr b e.symm
    rw [hB.cell] at c1
    exact (hq _ (Array.mem_of_getElem? c1)).2 _ rfl
  have key : ∀ t v, w.cell? ⟨b, t, none⟩ = some v → w1.cell? ⟨b, t, none⟩ = some v := fun t v hv => (World.cell?_of_block (w := w) (a := ⟨b, t, none⟩) (hg.block b hlt hne)).trans hv
  exact ⟨u, key _ _ c0, key _ _ c1, key _ _ c2, hu.grownQ hg (hr.mono fun u h => h.1)⟩
theorem Ents.grownQ {w w1 : World} {v : Value} {es : List Ent} {row : Option Nat} (h : Ents w v es) (hg : w.grownBy w1 row) (hr : BlkQ NBB w row) : Ents w1 v es := by
  obtain ⟨A, c, h1, h2, h3, h4⟩ := h
  refine ⟨A, c, h1, h2, h3, fun hp => ?_⟩
  obtain ⟨b, o, e, h5⟩ := h4 hp
  exact ⟨b, o, e, fun j x hj => (h5 j x hj).grownQ hg hr⟩
/-- A store is such a write. -/
theorem grown_cell (w : World) (g o : Nat) (u : Value) : w.grownBy (w.setCell ⟨g, o, none⟩ u) (some g) := grown_set (grown_refl w _) o u

/-- No byte, no text. -/
def NBS (u : Value) : Prop := NB u ∧ ∀ s : ByteArray, u ≠ .string s
theorem EntAt.grownS {w w1 : World} {b o : Nat} {e : Ent} {row : Option Nat} (h : EntAt w b o e) (hg : w.grownBy w1 row) (hr : BlkQ NBS w row) : EntAt w1 b o e := by
  obtain ⟨u, c0, c1, c2, hu⟩ := h
  have hlt : b < w.heap.size := World.block_lt_of_cell? w _ c0
  have hne : some b ≠ row := by
    intro e
    obtain ⟨t, cs, hB, hq⟩ := hr b e.symm
    rw [hB.cell] at c0
    exact (hq _ (Array.mem_of_getElem? c0)).2 _ rfl
  have key : ∀ t v, w.cell? ⟨b, t, none⟩ = some v → w1.cell? ⟨b, t, none⟩ = some v := fun t v hv => (World.cell?_of_block (w := w) (a := ⟨b, t, none⟩) (hg.block b hlt hne)).trans hv
  exact ⟨u, key _ _ c0, key _ _ c1, key _ _ c2, hu.grownQ hg (hr.mono fun u h => h.1)⟩
theorem Ents.grownS {w w1 : World} {v : Value} {es : List Ent} {row : Option Nat} (h : Ents w v es) (hg : w.grownBy w1 row) (hr : BlkQ NBS w row) : Ents w1 v es := by
  obtain ⟨A, c, h1, h2, h3, h4⟩ := h
  refine ⟨A, c, h1, h2, h3, fun hp => ?_⟩
  obtain ⟨b, o, e, h5⟩ := h4 hp
  exact ⟨b, o, e, fun j x hj => (h5 j x hj).grownS hg hr⟩

/-! ### changes in a row -/
def CC (w : World) : List Chg → List Value → Prop
  | [], cs => cs = []
  | c :: r, cs => ∃ u t, cs = .int .i64 c.op :: .string c.path :: .string c.to_ :: u :: t ∧ Byt w u c.b ∧ CC w r t
theorem CC.len {w : World} : ∀ {l : List Chg} {cs : List Value}, CC w l cs → cs.length = l.length * 4
  | [], _, h => by rw [show _ = [] from h]; rfl
  | c :: r, _, h => by
    obtain ⟨u, t, rfl, _, h⟩ := h
    have := CC.len h
    simp only [List.length_cons]
    omega
theorem CC.map {w w1 : World} (hm : ∀ u bs, Byt w u bs → Byt w1 u bs) : ∀ {l : List Chg} {cs : List Value}, CC w l cs → CC w1 l cs
  | [], _, h => h
  | c :: r, _, h => by
    obtain ⟨u, t, rfl, hu, h⟩ := h
    exact ⟨u, t, rfl, hm _ _ hu, CC.map hm h⟩
theorem CC.app {w : World} : ∀ {a b : List Chg} {ca cb : List Value}, CC w a ca → CC w b cb → CC w (a ++ b) (ca ++ cb)
  | [], _, _, _, h, h2 => by rw [show _ = [] from h]; exact h2
  | c :: r, _, _, _, h, h2 => by
    obtain ⟨u, t, rfl, hu, h⟩ := h
    exact ⟨u, _, rfl, hu, CC.app h h2⟩
theorem CC.one {w : World} {c : Chg} {u : Value} (h : Byt w u c.b) : CC w [c] [.int .i64 c.op, .string c.path, .string c.to_, u] := ⟨u, [], rfl, h, rfl⟩
theorem CC.get {w : World} : ∀ {l : List Chg} {cs : List Value} {j : Nat} {c : Chg}, CC w l cs → l[j]? = some c →
    ∃ u, cs[j * 4]? = some (.int .i64 c.op) ∧ cs[j * 4 + 1]? = some (.string c.path) ∧ cs[j * 4 + 2]? = some (.string c.to_) ∧ cs[j * 4 + 3]? = some u ∧ Byt w u c.b
  | [], _, _, _, _, h => by simp at h
  | x :: r, _, 0, c, h, hj => by
    obtain ⟨u, t, rfl, hu, _⟩ := h
    simp at hj
    subst hj
    exact ⟨u, rfl, rfl, rfl, rfl, hu⟩
  | x :: r, _, j + 1, c, h, hj => by
    obtain ⟨u, t, rfl, _, h⟩ := h
    obtain ⟨v, h1, h2, h3, h4, h5⟩ := CC.get h (by simpa using hj)
    refine ⟨v, ?_, ?_, ?_, ?_, h5⟩
    · rw [show (j + 1) * 4 = j * 4 + 4 by omega]; simpa using h1
    · rw [show (j + 1) * 4 + 1 = (j * 4 + 1) + 4 by omega]; simpa using h2
    · rw [show (j + 1) * 4 + 2 = (j * 4 + 2) + 4 by omega]; simpa using h3
    · rw [show (j + 1) * 4 + 3 = (j * 4 + 3) + 4 by omega]; simpa using h4
/-- A slice of changes in a row of the disk's own. -/
def ChgRow (w : World) (base : Nat) (v : Value) (l : List Chg) : Prop := ∃ cs, OwnQ NBB w base 59 4 v l.length cs ∧ CC w l cs
theorem ChgRow.below {w w1 : World} {base : Nat} {v : Value} {l : List Chg} (h : ChgRow w base v l) (hb : Below w.heap.size w w1) : ChgRow w1 base v l := by
  obtain ⟨cs, h1, h2⟩ := h
  exact ⟨cs, h1.below hb, CC.map (fun u bs h => h.below hb) h2⟩
theorem ChgRow.nil (w : World) (base : Nat) : ChgRow w base (.slice none 0 0) [] := ⟨[], OwnQ.nil _ _ _ _ _, rfl⟩
/-- Whole numbers that are kept. -/
def KeepV (w : World) (v : Value) (zs : List Int) : Prop := ∃ base, w.ownsRow base 3 1 v zs.length (zs.map (Value.int .i64))
theorem KeepV.below {w w1 : World} {v : Value} {zs : List Int} (h : KeepV w v zs) (hb : Below w.heap.size w w1) : KeepV w1 v zs := by
  obtain ⟨base, h⟩ := h
  exact ⟨base, row_below h hb⟩
theorem KeepV.nil (w : World) : KeepV w (.slice none 0 0) [] := ⟨0, World.ownsRow_nil _ _ _ _⟩
/-- Behind a write into a block of another kind. -/
theorem KeepV.grown {w w1 : World} {v : Value} {zs : List Int} {row : Option Nat} (h : KeepV w v zs) (hg : w.grownBy w1 row) (hr : ∀ g, row = some g → ∃ t cs, Bk w g t cs ∧ t ≠ 3) : KeepV w1 v zs := by
  obtain ⟨base, h0, h⟩ := h
  refine ⟨base, h0, ?_⟩
  rcases h with h | ⟨g, cap, cur, h1, h2, h3, h4⟩
  · exact .inl h
  · refine .inr ⟨g, cap, cur, h1, h2, ?_, h4⟩
    refine (Bk.grown (t := 3) (cs := cur) h3 hg ?_ : Bk w1 g 3 cur)
    intro e
    obtain ⟨t, cs, hB, ht⟩ := hr g e.symm
    have h5 : some (Obj.cells cur 3 (0, 0)) = some (Obj.cells cs t (0, 0)) := h3.symm.trans hB
    injection h5 with h5
    injection h5 with _ h5 _
    exact ht h5.symm

structure Dsk where
  quota : Int
  now : List Ent
  last : List Ent
  waits : List Chg
  off : Bool
  count : Int
  fuse : Int
  keep : List Int
  torn : Int
def dcells (d : Dsk) (un ul uw uk : Value) : Array Value := #[.int .i64 d.quota, un, ul, uw, .bool d.off, .int .i64 d.count, .int .i64 d.fuse, uk, .int .i64 d.torn]
/-- The disk that a pointer to block b means. -/
def DiskAt (w : World) (base b : Nat) (d : Dsk) : Prop :=
  base ≤ b ∧ ∃ un ul uw uk, Bk w b 91 (dcells d un ul uw uk) ∧ Ents w un d.now ∧ Ents w ul d.last ∧ ChgRow w base uw d.waits ∧ KeepV w uk d.keep
theorem DiskAt.below {w w1 : World} {base b : Nat} {d : Dsk} (h : DiskAt w base b d) (hb : Below w.heap.size w w1) : DiskAt w1 base b d := by
  obtain ⟨h0, un, ul, uw, uk, h1, h2, h3, h4, h5⟩ := h
  exact ⟨h0, un, ul, uw, uk, h1.after hb, h2.below hb, h3.below hb, h4.below hb, h5.below hb⟩
theorem DiskAt.lt {w : World} {base b : Nat} {d : Dsk} (h : DiskAt w base b d) : b < w.heap.size := by
  obtain ⟨_, un, ul, uw, uk, h1, _⟩ := h
  exact h1.lt

/-! ### a change with bytes of its own -/
def COwnPost (c : Chg) (w : World) (x : Ending) (w' : World) : Prop := ∃ v', x = .returned v' ∧ ChgV w' v' c ∧ Below w.heap.size w w'
theorem cown_end {w w1 : World} {c : Chg} {u v2 : Value} {t : TypeId} (hb : Below ((w.alloc (.cells #[.int .i64 c.op, .string c.path, .string c.to_, u] t)).alloc (.cells #[.int .i64 0, .string ⟨#[]⟩, .string ⟨#[]⟩, .slice none 0 0] t)).heap.size ((w.alloc (.cells #[.int .i64 c.op, .string c.path, .string c.to_, u] t)).alloc (.cells #[.int .i64 0, .string ⟨#[]⟩, .string ⟨#[]⟩, .slice none 0 0] t)) w1)
    (hv : Byt w1 v2 c.b) (hu : ∃ A n c, u = .slice A n c) : Byt (((((w1.setCell ⟨w.heap.size, 3, none⟩ v2).setCell ⟨w.heap.size + 1, 0, none⟩ (.int .i64 c.op)).setCell ⟨w.heap.size + 1, 1, none⟩ (.string c.path)).setCell ⟨w.heap.size + 1, 2, none⟩ (.string c.to_)).setCell ⟨w.heap.size + 1, 3, none⟩ v2) v2 c.b := by
  have B1 := ((Bk.new w t #[.int .i64 c.op, .string c.path, .string c.to_, u]).alloc (.cells #[.int .i64 0, .string ⟨#[]⟩, .string ⟨#[]⟩, .slice none 0 0] t)).after hb
  have B2 := (Bk.new1 w (.cells #[.int .i64 c.op, .string c.path, .string c.to_, u] t) t #[.int .i64 0, .string ⟨#[]⟩, .string ⟨#[]⟩, .slice none 0 0]).after hb
  obtain ⟨A, n, cc, rfl⟩ := hu
  have C2 := B2.far (p := ⟨w.heap.size, 3, none⟩) (by simp) v2
  refine ((((hv.set B1 (by simp) 3 _).set C2 (by simp) 0 _).set (C2.set 0 _) (by simp) 1 _).set ((C2.set 0 _).set 1 _) (by simp) 2 _).set (((C2.set 0 _).set 1 _).set 2 _) (by simp) 3 _

theorem cown_any (c : Chg) (v : Value) (w : World) (h : ChgV w v c) (hn : c.b.length ≤ 1048576) :
    Calls Tryd.prog 63 #[v] w (COwnPost c w) := by
  obtain ⟨u, rfl, hu⟩ := h
  have hu1 : ∀ o1 o2, Byt ((w.alloc o1).alloc o2) u c.b := fun o1 o2 => hu.below (((Below.refl _ _).alloc (Nat.le_refl _) _).alloc (by simp) _)
  have HU : Hid (∃ A n c, u = .slice A n c) := by obtain ⟨A, c, h, _⟩ := hu; exact ⟨A, _, c, h⟩
  clear hu
  have B0 := ((Below.refl w.heap.size w).alloc (Nat.le_refl _) (.cells #[.int .i64 c.op, .string c.path, .string c.to_, u] 59)).alloc (by simp) (.cells #[.int .i64 0, .string ⟨#[]⟩, .string ⟨#[]⟩, .slice none 0 0] 59)
  go_enter Tryd.func63, Tryd.ntmps63
  go_wp2_with (go_at_call 74; (with_reducible refine (cloneB_any c.b u _ (hu1 _ _) hn).mono ?_); rintro x w1 ⟨v', rfl, hv, hb1, -⟩; have HV := Lib.hid hv; obtain ⟨A', c', rfl, hq⟩ := hv; clear hq; have k1 := (((Bk.new w _ _).alloc _).after hb1).cell; have f1 := (((Bk.new w _ _).alloc _).after hb1).free; have k2 := ((Bk.new1 w _ _ _).after hb1).cell; have f2 := ((Bk.new1 w _ _ _).after hb1).free)
  refine bodyPost_ret (v := .agg #[.int .i64 c.op, .string c.path, .string c.to_, .slice A' c.b.length c']) (by simp [results, Tryd.results63, go_sem, k2]) rfl ?_
  refine ⟨_, rfl, ⟨_, rfl, cown_end hb1 HV.out HU.out⟩, ?_⟩
  exact (((((B0.trans (hb1.mono (by simp; omega))).setCell (Nat.le_refl _) _).setCell (Nat.le_add_right _ 1) _).setCell (Nat.le_add_right _ 1) _).setCell (Nat.le_add_right _ 1) _).setCell (Nat.le_add_right _ 1) _
end Go.Proofs.YtpfmenepgejgdaaDoor
