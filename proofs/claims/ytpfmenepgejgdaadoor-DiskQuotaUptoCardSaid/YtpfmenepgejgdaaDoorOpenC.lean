/-
  GIVEN CHANGES OPENED, and their bulk. Own work.
-/
import Derived.Test.YtpfmenepgejgdaaDoorOpen
import Derived.Test.YtpfmenepgejgdaaDoorQuota
namespace Go.Proofs.YtpfmenepgejgdaaDoor
open Go.RowKit Go.ChangeShapes Go.WideShapes
section
variable {H : Type} {enc : TypeId × Value → H} {w : World} {base : Nat} {spare : Nat → Bool} {held : Bool} {fuel : Nat}
theorem cells59 : Tryd.prog.cellsOf 59 = 4 := by kernel_rfl
theorem cells3 : Tryd.prog.cellsOf 3 = 1 := by kernel_rfl
set_option maxRecDepth 100000 in
/-- One change that is read. -/
theorem open_chg {cs : List Value} {x : DataW H × List MemPlace} (h : DataW.trod enc Tryd.prog w base spare held fuel 59 cs = some x) :
    ∃ (n : Int) (p q : ByteArray) (u : Value) (bs : List UInt8), cs = [.int .i64 n, .string p, .string q, u] ∧ Byt w u bs ∧ p.size + q.size + bs.length + 2 ≤ Rows.uptoBulk x.1 := by
  obtain ⟨ys, n, _, rfl, hcl, hyl, hf⟩ := DataW.trod_struct Tryd.underlying59 h
  rw [cells59] at hcl
  match cs, hcl with
  | [c0, c1, c2, c3], _ =>
    match ys, hyl with
    | [y0, y1, y2, y3], _ =>
      have h0 : DataW.trod enc Tryd.prog w base spare held n 3 (([c0, c1, c2, c3].drop 0).take (Tryd.prog.cellsOf 3)) = some y0 := hf 0 _ rfl
      have h1 : DataW.trod enc Tryd.prog w base spare held n 9 (([c0, c1, c2, c3].drop 1).take (Tryd.prog.cellsOf 9)) = some y1 := hf 1 _ rfl
      have h2 : DataW.trod enc Tryd.prog w base spare held n 9 (([c0, c1, c2, c3].drop 2).take (Tryd.prog.cellsOf 9)) = some y2 := hf 2 _ rfl
      have h3 : DataW.trod enc Tryd.prog w base spare held n 28 (([c0, c1, c2, c3].drop 3).take (Tryd.prog.cellsOf 28)) = some y3 := hf 3 _ rfl
      rw [cells3] at h0
      rw [cells9] at h1 h2
      rw [cells28] at h3
      simp only [List.drop_zero, List.take_succ_cons, List.take_zero, List.drop_succ_cons] at h0 h1 h2 h3
      obtain ⟨k, e0, r0, _⟩ := DataW.trod_int Tryd.underlying3 h0
      obtain ⟨p, e1, r1, _⟩ := DataW.trod_string Tryd.underlying9 h1
      obtain ⟨q, e2, r2, _⟩ := DataW.trod_string Tryd.underlying9 h2
      obtain ⟨u, bs, e3, hu, hb⟩ := open_byt h3
      simp only [List.cons.injEq, and_true] at e0 e1 e2 e3
      subst e0 e1 e2 e3
      refine ⟨k, p, q, _, bs, rfl, hu, ?_⟩
      have hs : p.data.toList.length = p.size := Array.length_toList
      have hs2 : q.data.toList.length = q.size := Array.length_toList
      rw [r0, r1, r2]
      simp only [List.map_cons, List.map_nil, Rows.uptoBulk, Rows.uptoBulkAll, hs, hs2]
      omega
/-- Changes that are read. -/
theorem open_chgs {cs : List Value} {x : DataW H × List MemPlace} (h : DataW.trod enc Tryd.prog w base spare held fuel 54 cs = some x) :
    ∃ v l, cs = [v] ∧ Chgs w v l ∧ ∀ c ∈ l, c.path.size ≤ Rows.uptoBulk x.1 ∧ c.to_.size ≤ Rows.uptoBulk x.1 := by
  rcases Deep.open_slice Tryd.underlying54 h with ⟨rfl, rfl⟩ | ⟨a, len, cap, m, n, D, Pl, rfl, hb, hl, hm, hmm, rfl, hi⟩
  · exact ⟨_, [], rfl, ⟨none, 0, rfl, Nat.le_refl _, fun h => absurd h (by simp)⟩, by simp⟩
  · rw [cells59] at hi
    have hlm : len ≤ m := by rw [hmm]; split <;> omega
    obtain ⟨es, hel, hes⟩ := pick_list (P := fun i (e : Chg) => (∃ u, w.cell? (a.add (i * 4)) = some (.int .i64 e.op) ∧ w.cell? (a.add (i * 4 + 1)) = some (.string e.path) ∧ w.cell? (a.add (i * 4 + 2)) = some (.string e.to_) ∧ w.cell? (a.add (i * 4 + 3)) = some u ∧ Byt w u e.b) ∧ e.path.size + e.to_.size + e.b.length + 2 ≤ Rows.uptoBulk (D i)) len (fun i hil => by
      obtain ⟨cs', hc, ht⟩ := hi i (by omega)
      obtain ⟨k, p, q, u, bs, rfl, hu, hbk⟩ := open_chg ht
      obtain ⟨_, _, hat⟩ := World.cells?_some hc
      refine ⟨⟨k, p, q, bs⟩, ⟨u, ?_, ?_, ?_, ?_, hu⟩, hbk⟩
      · have := hat 0 (by omega); rw [Deep.add_add] at this; simpa using this
      · have := hat 1 (by omega); rw [Deep.add_add] at this; simpa using this
      · have := hat 2 (by omega); rw [Deep.add_add] at this; simpa using this
      · have := hat 3 (by omega); rw [Deep.add_add] at this; simpa using this)
    have hbe : ∀ k i, i < k → Rows.uptoBulk (D i) ≤ Rows.uptoBulkAll ((List.range k).map D) := by
      intro k
      induction k with
      | zero => intro i hi; omega
      | succ k ih =>
        intro i hi
        rw [bulk_map]
        rcases Nat.lt_or_ge i k with h | h
        · have := ih i h; omega
        · obtain rfl : i = k := by omega
          omega
    have hsl : Rows.uptoBulkAll ((List.range len).map D) + 1 ≤ Rows.uptoBulk (DataW.slice ((List.range len).map D) ((List.range (m - len)).map fun j => D (len + j))) := by
      simp only [Rows.uptoBulk]; omega
    refine ⟨_, es, rfl, ⟨some a, cap, by rw [hel], by omega, fun hp => ?_⟩, fun e he => ?_⟩
    · obtain ⟨b, off, spot⟩ := a
      obtain ⟨⟨u, q0, _⟩, _⟩ := hes 0 _ (List.getElem?_eq_getElem hp)
      have hspot : spot = none := by simpa [Addr.add] using World.cell?_spot q0
      subst hspot
      refine ⟨b, off, rfl, fun j e hj => ?_⟩
      obtain ⟨⟨u, q0, q1, q2, q3, q4⟩, _⟩ := hes j e hj
      rw [add_plain] at q0 q1 q2 q3
      exact ⟨u, q0, by rw [Nat.add_assoc]; exact q1, by rw [Nat.add_assoc]; exact q2, by rw [Nat.add_assoc]; exact q3, q4⟩
    · obtain ⟨i, hi⟩ := List.mem_iff_getElem?.1 he
      have h1 := (hes i e hi).2
      have h2 := hbe len i (by have := (List.getElem?_eq_some_iff.1 hi).1; omega)
      simp only
      omega
end
end Go.Proofs.YtpfmenepgejgdaaDoor
