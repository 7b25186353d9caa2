/-
  THE PACKAGE disk: begin without a fuse, Do behind it. Own work.
-/
import Derived.Test.YtpfmenepgejgdaaDoorNew
import Derived.Deep.DeepCutAuto
namespace Go.Proofs.YtpfmenepgejgdaaDoor
open Go.RowKit

theorem begin0_any (base b : Nat) (d : Dsk) (w : World) (h : DiskAt w base b d) (hf : d.fuse ≤ 0 ∨ d.off = true) :
    Calls Tryd.prog 61 #[.pointer (some ⟨b, 0, none⟩)] w fun x w' => x = .returned (.bool (!d.off)) ∧ w' = w := by
  obtain ⟨_, un, ul, uw, uk, h1, _⟩ := h
  have k4 := h1.cell 4
  have k6 := h1.cell 6
  simp only [dcells, List.getElem?_toArray, List.getElem?_cons_zero, List.getElem?_cons_succ] at k4 k6
  by_cases h0 : d.fuse ≤ 0
  · clear hf
    go_enter Tryd.func61, Tryd.ntmps61
    go_wp2_with fail
    go_ret
    exact ⟨rfl, rfl⟩
  · have ho : d.off = true := by rcases hf with h | h; exact absurd h h0; exact h
    have h0' : 0 < d.fuse := by omega
    rw [ho] at k4 ⊢
    clear hf h0
    go_enter Tryd.func61, Tryd.ntmps61
    go_wp2_with fail
    go_ret
    exact ⟨rfl, rfl⟩

/-- The disk behind a Do that went: the tree, the change that waits, the count. -/
def doneD (d : Dsk) (c : Chg) (t : List Ent) : Dsk := { d with now := t, waits := d.waits ++ [c], count := d.count + 1 }
def bytesE (es : List Ent) : Int := if goodT es then (cnt es : Int) else 0
def doE (d : Dsk) (c : Chg) : Int × Dsk :=
  if (doneE d.now c).1 = 0 then (if d.quota < bytesE (doneE d.now c).2 ∧ bytesE d.now < bytesE (doneE d.now c).2 then (9, d) else (0, doneD d c (doneE d.now c).2)) else ((doneE d.now c).1, d)
/-- What may be. -/
def DGood (d : Dsk) : Prop := goodT d.now = true ∧ goodT d.last = true ∧ d.waits.length ≤ 100000 ∧ 0 ≤ d.count ∧ d.count ≤ 1000000000
def CSmall (c : Chg) : Prop := c.path.size ≤ 1048576 ∧ c.to_.size ≤ 1048576 ∧ c.b.length ≤ 40000
theorem info59 : (Tryd.prog.info? 59).map (fun i => (i.zero, i.size, i.bytes)) = some (some (.agg #[.int .i64 0, .string ⟨#[]⟩, .string ⟨#[]⟩, .slice none 0 0]), 4, 64) := by kernel_rfl

/-! ### what a method may write -/
/-- All is as it was but block b, rows of changes from base on, and new blocks. -/
structure FrD (base b : Nat) (w w' : World) : Prop where
  os : w'.os = w.os
  tape : w'.tape = w.tape
  output : w'.output = w.output
  size : w.heap.size ≤ w'.heap.size
  block : ∀ g, g < w.heap.size → g ≠ b → (g < base ∨ ∃ t cs, Bk w g t cs ∧ t ≠ 59) → w'.heap[g]? = w.heap[g]?
theorem FrD.refl (base b : Nat) (w : World) : FrD base b w w := ⟨rfl, rfl, rfl, Nat.le_refl _, fun _ _ _ _ => rfl⟩
theorem FrD.of_below {base b : Nat} {w w' : World} (h : Below w.heap.size w w') : FrD base b w w' := ⟨h.os, h.tape, h.output, h.size, fun g hg _ _ => h.block g hg⟩
theorem FrD.of_grown {base b : Nat} {w w' : World} (h : w.grownBy w' (some b)) : FrD base b w w' := ⟨h.os, h.tape, h.output, h.size, fun g hg hne _ => h.block g hg (fun e => hne (by injection e))⟩
theorem FrD.of_row {base b : Nat} {w w' : World} {row : Option Nat} (h : w.grownBy w' row) (hr : ∀ g, row = some g → base ≤ g ∧ ∃ cs, Bk w g 59 cs) : FrD base b w w' :=
  ⟨h.os, h.tape, h.output, h.size, fun g hg _ hx => h.block g hg (fun e => by
    obtain ⟨h1, cs, h2⟩ := hr g e.symm
    rcases hx with hx | ⟨t, cs', h3, ht⟩
    · omega
    · have h5 : some (Obj.cells cs 59 (0, 0)) = some (Obj.cells cs' t (0, 0)) := h2.symm.trans h3
      injection h5 with h5
      injection h5 with _ h5 _
      exact ht h5.symm)⟩
theorem FrD.trans {base b : Nat} {w w1 w2 : World} (h : FrD base b w w1) (k : FrD base b w1 w2) : FrD base b w w2 :=
  ⟨k.os.trans h.os, k.tape.trans h.tape, k.output.trans h.output, Nat.le_trans h.size k.size, fun g hg hne hx => by
    have h1 := h.block g hg hne hx
    refine (k.block g (Nat.lt_of_lt_of_le hg h.size) hne ?_).trans h1
    rcases hx with hx | ⟨t, cs, h3, ht⟩
    · exact .inl hx
    · exact .inr ⟨t, cs, h1.trans h3, ht⟩⟩
theorem FrD.below {base b : Nat} {w w' : World} (h : FrD base b w w') (hb : base ≤ b) (hs : base ≤ w.heap.size) : Below base w w' :=
  ⟨h.os, h.tape, h.output, h.size, fun g hg => h.block g (by omega) (by omega) (.inl hg)⟩

def DoPost (base b : Nat) (r : Int × Dsk) (w : World) (x : Ending) (w' : World) : Prop := x = .returned (.int .i64 r.1) ∧ DiskAt w' base b r.2 ∧ FrD base b w w'
def BegPost (base b : Nat) (d1 : Dsk) (w : World) (x : Ending) (w' : World) : Prop := x = .returned (.bool (!d1.off)) ∧ DiskAt w' base b d1 ∧ w.grownBy w' (some b)

theorem type_ne {w : World} {g g' : Nat} {t t' : TypeId} {cs cs' : Array Value} (h : Bk w g t cs) (h' : Bk w g' t' cs') (ht : t ≠ t') : g ≠ g' := by
  rintro rfl
  have h5 : some (Obj.cells cs t (0, 0)) = some (Obj.cells cs' t' (0, 0)) := h.symm.trans h'
  injection h5 with h5
  injection h5 with _ h5 _
  exact ht h5
theorem OwnQ.row {q : Value → Prop} {w : World} {base : Nat} {e : TypeId} {size n : Nat} {v : Value} {xs : List Value} (h : OwnQ q w base e size v n xs) : ∀ g, v.ownBlock = some g → base ≤ g ∧ ∃ cs, Bk w g e cs := by
  rcases h.2 with ⟨rfl, _⟩ | ⟨g, cap, cur, rfl, h1, h2, _⟩
  · intro g hg; simp [Value.ownBlock] at hg
  · intro g' hg
    simp only [Value.ownBlock, Option.some.injEq] at hg
    subst hg
    exact ⟨h1, _, h2⟩
theorem disk_blkS {w : World} {b : Nat} {d : Dsk} {un ul uw uk : Value} (h : Bk w b 91 (dcells d un ul uw uk)) (h1 : NBS un) (h2 : NBS ul) (h3 : NBS uw) (h4 : NBS uk) : BlkQ NBS w (some b) := by
  intro g hg
  injection hg with hg
  subst hg
  refine ⟨_, _, h, fun u hu => ?_⟩
  simp only [dcells, List.mem_toArray, List.mem_cons, List.mem_nil_iff, or_false] at hu
  rcases hu with rfl | rfl | rfl | rfl | rfl | rfl | rfl | rfl | rfl
  · exact ⟨fun _ => by simp, fun _ => by simp⟩
  · exact h1
  · exact h2
  · exact h3
  · exact ⟨fun _ => by simp, fun _ => by simp⟩
  · exact ⟨fun _ => by simp, fun _ => by simp⟩
  · exact ⟨fun _ => by simp, fun _ => by simp⟩
  · exact h4
  · exact ⟨fun _ => by simp, fun _ => by simp⟩
theorem Ents.nbs {w : World} {v : Value} {es : List Ent} (h : Ents w v es) : NBS v := by
  obtain ⟨A, c, rfl, _⟩ := h
  exact ⟨fun _ => by simp, fun _ => by simp⟩
theorem ChgRow.nbs {w : World} {base : Nat} {v : Value} {l : List Chg} (h : ChgRow w base v l) : NBS v := by
  obtain ⟨cs, h1, _⟩ := h
  obtain ⟨A, c, rfl⟩ := h1.form
  exact ⟨fun _ => by simp, fun _ => by simp⟩
theorem KeepV.nbs {w : World} {v : Value} {zs : List Int} (h : KeepV w v zs) : NBS v := by
  obtain ⟨base, h⟩ := h
  obtain ⟨A, c, rfl, _⟩ := own_form h
  exact ⟨fun _ => by simp, fun _ => by simp⟩
/-- Stores into the disk's own block: what the fields lead to is as it was. -/
theorem disk_store {w w1 : World} {base b : Nat} {d : Dsk} {un ul uw uk : Value} (hK : Bk w b 91 (dcells d un ul uw uk)) (hn : Ents w un d.now) (hl : Ents w ul d.last) (hw : ChgRow w base uw d.waits) (hk : KeepV w uk d.keep) (hg : w.grownBy w1 (some b)) :
    Ents w1 un d.now ∧ Ents w1 ul d.last ∧ ChgRow w1 base uw d.waits ∧ KeepV w1 uk d.keep ∧ (∀ u es, Ents w u es → Ents w1 u es) ∧ (∀ u bs, Byt w u bs → Byt w1 u bs) := by
  have hB := disk_blkS hK hn.nbs hl.nbs hw.nbs hk.nbs
  have hE : ∀ u es, Ents w u es → Ents w1 u es := fun u es h => h.grownS hg hB
  have hY : ∀ u bs, Byt w u bs → Byt w1 u bs := fun u bs h => h.grownQ hg (hB.mono fun u h => h.1)
  refine ⟨hE _ _ hn, hE _ _ hl, ?_, ?_, hE, hY⟩
  · obtain ⟨cs, h1, h2⟩ := hw
    refine ⟨cs, ⟨h1.1, ?_⟩, CC.map hY h2⟩
    rcases h1.2 with h | ⟨g, cap, cur, h3, h4, h5, h6⟩
    · exact .inl h
    · exact .inr ⟨g, cap, cur, h3, h4, h5.grown hg (fun e => by injection e with e; exact type_ne h5 hK (by decide) e), h6⟩
  · exact hk.grown hg (fun g e => by injection e with e; subst e; exact ⟨_, _, hK, by decide⟩)
end Go.Proofs.YtpfmenepgejgdaaDoor
