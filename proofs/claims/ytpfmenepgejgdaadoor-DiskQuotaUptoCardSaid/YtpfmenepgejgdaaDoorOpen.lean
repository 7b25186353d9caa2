/-
  THE ARGUMENTS OPENED: bytes, entries, and their bulk. Own work.
-/
import Derived.Test.YtpfmenepgejgdaaDoorRows
import Derived.Test.YtpfmenepgejgdaaDoorMem
import Derived.Deep.Slices
import Derived.ChangeSame
namespace Go.Proofs.YtpfmenepgejgdaaDoor
open Go.RowKit Go.ChangeShapes Go.WideShapes
section
variable {H : Type} {enc : TypeId × Value → H} {w : World} {base : Nat} {spare : Nat → Bool} {held : Bool} {fuel : Nat}

theorem bulk1 (d : DataW H) : 1 ≤ Rows.uptoBulk d := by
  cases d with
  | lit l => cases l <;> simp [Rows.uptoBulk]
  | _ => simp [Rows.uptoBulk]
theorem bulk_len : ∀ l : List (DataW H), l.length ≤ Rows.uptoBulkAll l
  | [] => by simp [Rows.uptoBulkAll]
  | x :: r => by
    have h1 := bulk1 x
    have h2 := bulk_len r
    simp only [Rows.uptoBulkAll, List.length_cons]
    omega
theorem bulk_map (f : Nat → DataW H) : ∀ n, Rows.uptoBulkAll ((List.range (n + 1)).map f) = Rows.uptoBulkAll ((List.range n).map f) + Rows.uptoBulk (f n) := by
  intro n
  rw [List.range_succ, List.map_append]
  have happ : ∀ a b : List (DataW H), Rows.uptoBulkAll (a ++ b) = Rows.uptoBulkAll a + Rows.uptoBulkAll b := by
    intro a b
    induction a with
    | nil => simp [Rows.uptoBulkAll]
    | cons x r ih => simp only [List.cons_append, Rows.uptoBulkAll, ih]; omega
  rw [happ]
  simp [Rows.uptoBulkAll]

theorem pick_list {α : Type} {P : Nat → α → Prop} : ∀ n : Nat, (∀ i, i < n → ∃ e, P i e) → ∃ es : List α, es.length = n ∧ ∀ i e, es[i]? = some e → P i e
  | 0, _ => ⟨[], rfl, fun i e h => by simp at h⟩
  | n + 1, h => by
    obtain ⟨es, hl, hp⟩ := pick_list n (fun i hi => h i (by omega))
    obtain ⟨e, he⟩ := h n (by omega)
    refine ⟨es ++ [e], by simp [hl], fun i x hx => ?_⟩
    rcases Nat.lt_trichotomy i n with hi | hi | hi
    · rw [List.getElem?_append_left (by omega)] at hx
      exact hp i x hx
    · subst hi
      rw [List.getElem?_append_right (by omega), hl, Nat.sub_self] at hx
      injection hx with hx
      rw [← hx]; exact he
    · rw [List.getElem?_eq_none (by simp; omega)] at hx
      cases hx

theorem cells5 : Tryd.prog.cellsOf 5 = 1 := by kernel_rfl
theorem cells30 : Tryd.prog.cellsOf 30 = 3 := by kernel_rfl
theorem cells9 : Tryd.prog.cellsOf 9 = 1 := by kernel_rfl
theorem cells4 : Tryd.prog.cellsOf 4 = 1 := by kernel_rfl
theorem cells28 : Tryd.prog.cellsOf 28 = 1 := by kernel_rfl

/-- Bytes that are read. -/
theorem open_byt {cs : List Value} {x : DataW H × List MemPlace} (h : DataW.trod enc Tryd.prog w base spare held fuel 28 cs = some x) :
    ∃ v bs, cs = [v] ∧ Byt w v bs ∧ bs.length + 1 ≤ Rows.uptoBulk x.1 := by
  rcases open_ints Tryd.underlying28 Tryd.underlying5 cells5 h with ⟨rfl, rfl⟩ | ⟨a, len, cap, zs, rfl, hb, hl, hm, hz, rfl, hcell, hwf⟩
  · exact ⟨_, [], rfl, Byt.nil w, by simp [Rows.uptoBulk]⟩
  · have hzl : len ≤ zs.length := by rw [hz]; split <;> omega
    have hlen : (zs.take len).length = len := List.length_take_of_le hzl
    refine ⟨_, (zs.take len).map fun z => UInt8.ofNat z.toNat, rfl, ⟨some a, cap, by rw [List.length_map, hlen], by rw [List.length_map, hlen]; exact hl, (fun e => by cases e), fun hp => ?_⟩, ?_⟩
    · rw [List.length_map, hlen] at hp
      obtain ⟨b, off, spot⟩ := a
      have hspot : spot = none := by simpa [Addr.add] using World.cell?_spot (hcell 0 (by omega))
      subst hspot
      refine ⟨b, off, rfl, fun j x hj => ?_⟩
      rw [List.getElem?_map, List.getElem?_take] at hj
      split at hj
      · rename_i hjl
        have hzj : zs[j]? = some (zs[j]'(by omega)) := List.getElem?_eq_getElem (by omega)
        rw [hzj] at hj
        have hc := hcell j (by omega)
        rw [add_plain, List.getD_eq_getElem?_getD, hzj] at hc
        have hw8 := hwf _ (List.getElem_mem (by omega : j < zs.length))
        simp only [Lit.wf, Bool.and_eq_true, decide_eq_true_eq] at hw8
        have e1 : IntKind.u8.min = 0 := rfl
        have e2 : IntKind.u8.max = 255 := rfl
        rw [e1, e2] at hw8
        simp only [Option.map_some, Option.some.injEq] at hj
        rw [hc, ← hj]
        simp only [Option.getD_some, Option.some.injEq, Value.int.injEq, true_and, UInt8.toNat_ofNat']
        omega
      · simp at hj
    · have := bulk_len (lits (H := H) .u8 (zs.take len))
      simp only [lits, List.length_map, hlen] at this
      simp only [Rows.uptoBulk, List.length_map, hlen, lits]
      omega

set_option maxRecDepth 100000 in
/-- One entry that is read. -/
theorem open_ent {cs : List Value} {x : DataW H × List MemPlace} (h : DataW.trod enc Tryd.prog w base spare held fuel 30 cs = some x) :
    ∃ (p : ByteArray) (d : Bool) (u : Value) (bs : List UInt8), cs = [.string p, .bool d, u] ∧ Byt w u bs ∧ p.size + bs.length + 2 ≤ Rows.uptoBulk x.1 := by
  obtain ⟨ys, n, _, rfl, hcl, hyl, hf⟩ := DataW.trod_struct Tryd.underlying30 h
  rw [cells30] at hcl
  match cs, hcl with
  | [c0, c1, c2], _ =>
    match ys, hyl with
    | [y0, y1, y2], _ =>
      have h0 : DataW.trod enc Tryd.prog w base spare held n 9 (([c0, c1, c2].drop 0).take (Tryd.prog.cellsOf 9)) = some y0 := hf 0 _ rfl
      have h1 : DataW.trod enc Tryd.prog w base spare held n 4 (([c0, c1, c2].drop 1).take (Tryd.prog.cellsOf 4)) = some y1 := hf 1 _ rfl
      have h2 : DataW.trod enc Tryd.prog w base spare held n 28 (([c0, c1, c2].drop 2).take (Tryd.prog.cellsOf 28)) = some y2 := hf 2 _ rfl
      rw [cells9] at h0
      rw [cells4] at h1
      rw [cells28] at h2
      simp only [List.drop_zero, List.take_succ_cons, List.take_zero, List.drop_succ_cons] at h0 h1 h2
      obtain ⟨p, e0, r0, _⟩ := DataW.trod_string Tryd.underlying9 h0
      obtain ⟨d, e1, r1⟩ := DataW.trod_bool Tryd.underlying4 h1
      obtain ⟨u, bs, e2, hu, hb⟩ := open_byt h2
      simp only [List.cons.injEq, and_true] at e0 e1 e2
      subst e0 e1 e2
      refine ⟨p, d, _, bs, rfl, hu, ?_⟩
      have hs : p.data.toList.length = p.size := Array.length_toList
      rw [r0, r1]
      simp only [List.map_cons, List.map_nil, Rows.uptoBulk, Rows.uptoBulkAll, hs]
      omega

/-- Entries that are read. -/
theorem open_ents {cs : List Value} {x : DataW H × List MemPlace} (h : DataW.trod enc Tryd.prog w base spare held fuel 22 cs = some x) :
    ∃ v es, cs = [v] ∧ Ents w v es ∧ es.length ≤ Rows.uptoBulk x.1 ∧ cnt es ≤ Rows.uptoBulk x.1 ∧ ∀ e ∈ es, e.path.size ≤ Rows.uptoBulk x.1 := by
  rcases Deep.open_slice Tryd.underlying22 h with ⟨rfl, rfl⟩ | ⟨a, len, cap, m, n, D, Pl, rfl, hb, hl, hm, hmm, rfl, hi⟩
  · exact ⟨_, [], rfl, ⟨none, 0, rfl, Nat.le_refl _, fun _ => rfl, fun h => absurd h (by simp)⟩, by simp, by simp [cnt], by simp⟩
  · rw [cells30] at hi
    have hlm : len ≤ m := by rw [hmm]; split <;> omega
    obtain ⟨es, hel, hes⟩ := pick_list (P := fun i (e : Ent) => (∃ u, w.cell? (a.add (i * 3)) = some (.string e.path) ∧ w.cell? (a.add (i * 3 + 1)) = some (.bool e.dir) ∧ w.cell? (a.add (i * 3 + 2)) = some u ∧ Byt w u e.b) ∧ e.path.size + e.b.length + 2 ≤ Rows.uptoBulk (D i)) len (fun i hil => by
      obtain ⟨cs', hc, ht⟩ := hi i (by omega)
      obtain ⟨p, d, u, bs, rfl, hu, hbk⟩ := open_ent ht
      obtain ⟨_, _, hat⟩ := World.cells?_some hc
      refine ⟨⟨p, d, bs⟩, ⟨u, ?_, ?_, ?_, hu⟩, hbk⟩
      · have := hat 0 (by omega); rw [Deep.add_add] at this; simpa using this
      · have := hat 1 (by omega); rw [Deep.add_add] at this; simpa using this
      · have := hat 2 (by omega); rw [Deep.add_add] at this; simpa using this)
    have hbulk : ∀ k, k ≤ es.length → cnt (es.take k) ≤ Rows.uptoBulkAll ((List.range k).map D) := by
      intro k
      induction k with
      | zero => intro _; simp [cnt]
      | succ k ih =>
        intro hk
        have hk' : k < es.length := by omega
        have he := List.getElem?_eq_getElem hk'
        have h1 := cnt_snoc he
        have h2 := (hes k _ he).2
        have h3 := ih (by omega)
        rw [bulk_map]
        omega
    have hbe : ∀ k i, i < k → Rows.uptoBulk (D i) ≤ Rows.uptoBulkAll ((List.range k).map D) := by
      intro k
      induction k with
      | zero => intro i hi; omega
      | succ k ih =>
        intro i hi
        rw [bulk_map]
        rcases Nat.lt_or_ge i k with h | h
        · have := ih i h; omega
        · obtain rfl : i = k := by omega
          omega
    have hsl : Rows.uptoBulkAll ((List.range len).map D) + 1 ≤ Rows.uptoBulk (DataW.slice ((List.range len).map D) ((List.range (m - len)).map fun j => D (len + j))) := by
      simp only [Rows.uptoBulk]; omega
    refine ⟨_, es, rfl, ⟨some a, cap, by rw [hel], by omega, (fun e => by cases e), fun hp => ?_⟩, ?_, ?_, fun e he => ?_⟩
    · obtain ⟨b, off, spot⟩ := a
      obtain ⟨⟨u, q0, _⟩, _⟩ := hes 0 _ (List.getElem?_eq_getElem hp)
      have hspot : spot = none := by simpa [Addr.add] using World.cell?_spot q0
      subst hspot
      refine ⟨b, off, rfl, fun j e hj => ?_⟩
      obtain ⟨⟨u, q0, q1, q2, q3⟩, _⟩ := hes j e hj
      rw [add_plain] at q0 q1 q2
      exact ⟨u, q0, by rw [Nat.add_assoc]; exact q1, by rw [Nat.add_assoc]; exact q2, q3⟩
    · have := bulk_len ((List.range len).map D)
      rw [List.length_map, List.length_range] at this
      simp only
      omega
    · have := hbulk es.length (Nat.le_refl _)
      rw [List.take_length, hel] at this
      simp only
      omega
    · obtain ⟨i, hi⟩ := List.mem_iff_getElem?.1 he
      have h1 := (hes i e hi).2
      have h2 := hbe len i (by have := (List.getElem?_eq_some_iff.1 hi).1; omega)
      simp only
      omega
end
end Go.Proofs.YtpfmenepgejgdaaDoor
