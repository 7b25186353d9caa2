/-
  append, copy, clear ON A ROW OF THREE-CELL ELEMENTS THAT IS KNOWN WHOLE: plain laws on the model's run, of no program. Own work.
-/
import Derived.Test.YtpfmenepgejgdaaDoorOwn
import Derived.Laws.CopyOwn
import Derived.Lib.AppendZeros
namespace Go.Proofs.YtpfmenepgejgdaaDoor
open Go.RowKit
section
variable {P : Program}

theorem load0 (x : Addr) (w : World) : (loadCells x 0).run P w = .ok #[] w := by simpa using run_loadCells_list (P := P) w x [] (by simp)

theorem run_append_sp (w : World) (t ty e : TypeId) (i : TypeInfo) (ht : P.underlying t = some (.slice e)) (hi : P.info? e = some i) (h3 : i.size = 3)
    (g n cap : Nat) (cur : List Value) (hg : w.heap[g]? = some (.cells cur.toArray e (0, 0))) (ao : Option Addr) (m c : Nat) (news : List Value) (hl : news.length = m * 3)
    (hpos : 0 < m → ∃ ad, ao = some ad ∧ ∀ j u, news[j]? = some u → w.cell? (ad.add j) = some u) (h1 : ∀ u ∈ news, u.oneCell' = true) (hroom : n + m ≤ cap) (hfit : n * 3 + news.length ≤ cur.length) :
    (Builtin.append_ #[t, t] ty #[.slice (some ⟨g, 0, none⟩) n cap, .slice ao m c]).run P w = .ok (.slice (some ⟨g, 0, none⟩) (n + m) cap) (w.setRow g (splice cur (n * 3) news).toArray) := by
  by_cases h0 : m = 0
  · subst h0
    have hn : news = [] := List.eq_nil_of_length_eq_zero (by omega)
    subst hn
    have e0 : splice cur (n * 3) [] = cur := by simp [splice]
    rw [e0, setRow_self w g cur.toArray e (0, 0) hg]
    have hr : n ≤ cap := by omega
    cases ao <;> simp [Builtin.append_, run_underlying ht, sizeOf, typeInfo, hi, Builtin.lenOf, Builtin.firstCells, hr, load0, storeCells]
  · obtain ⟨ad, rfl, hc⟩ := hpos (by omega)
    have := run_append_room (P := P) w t ty e i ht hi g n cap cur.toArray hg ad m c news (by rw [h3]; exact hl) hc h1 hroom (by rw [h3]; simpa using hfit)
    rw [this, h3]
    simp [splice]

theorem run_copy_sp (w : World) (t ty e : TypeId) (i : TypeInfo) (ht : P.underlying t = some (.slice e)) (hi : P.info? e = some i) (h3 : i.size = 3)
    (g off : Nat) (cur : List Value) (hg : w.heap[g]? = some (.cells cur.toArray e (0, 0))) (dp sp : Option Addr) (dLen dCap sLen sCap : Nat) (cs : List Value) (hl : cs.length = Nat.min sLen dLen * 3)
    (hpos : 0 < cs.length → dp = some ⟨g, off, none⟩ ∧ ∃ ad, sp = some ad ∧ ∀ j u, cs[j]? = some u → w.cell? (ad.add j) = some u) (h1 : ∀ u ∈ cs, u.oneCell' = true) (hfit : off + cs.length ≤ cur.length) :
    (Builtin.copy_ #[t, t] ty #[.slice dp dLen dCap, .slice sp sLen sCap]).run P w = .ok (goInt (Nat.min sLen dLen)) (w.setRow g (splice cur off cs).toArray) := by
  by_cases h0 : Nat.min sLen dLen = 0
  · have hn : cs = [] := List.eq_nil_of_length_eq_zero (by omega)
    subst hn
    have e0 : splice cur off [] = cur := by simp [splice]
    rw [e0, setRow_self w g cur.toArray e (0, 0) hg]
    cases dp <;> cases sp <;> simp [Builtin.copy_, run_underlying ht, Builtin.lenOf, Builtin.firstCells, sizeOf, typeInfo, hi, h0, storeCells, load0]
  · obtain ⟨rfl, ad, rfl, hc⟩ := hpos (by omega)
    have hld := run_loadCells_list (P := P) w ad cs hc
    have hst := run_storeCells_at P g off e cs 0 cur.toArray w hg (by simpa using hfit) h1
    simp only [Nat.add_zero] at hst
    rw [hl] at hld
    simp [Builtin.copy_, run_underlying ht, Builtin.lenOf, Builtin.firstCells, sizeOf, typeInfo, hi, h3, hld, hst, splice]

theorem run_clear_sp (w : World) (t ty e : TypeId) (zs : List Value) (z : Value) (ht : P.underlying t = some (.slice e)) (hz : ∀ w, (zeroValue e).run P w = .ok z w) (hzs : Builtin.zeroCells z.cells 1 = zs.toArray) (h1 : ∀ u ∈ zs, u.oneCell' = true)
    (g off c : Nat) (cur : List Value) (hg : w.heap[g]? = some (.cells cur.toArray e (0, 0))) (hfit : off + zs.length ≤ cur.length) :
    (Builtin.clear_ #[t] ty #[.slice (some ⟨g, off, none⟩) 1 c]).run P w = .ok (.tuple #[]) (w.setRow g (splice cur off zs).toArray) := by
  have hst := run_storeCells_at P g off e zs 0 cur.toArray w hg (by simpa using hfit) h1
  simp only [Nat.add_zero] at hst
  simp [Builtin.clear_, run_underlying ht, hz, hzs, hst, splice]

/-! ### in the walk's form: the world behind is a letter -/
theorem step_append_run {ops : Array Oper} {o : Oper} {a : Act} {w : World} {K : Act → World → Prop} {Q : Exit → Act → World → Prop} {E : Prop} (hgd : o.guard = none) (d s : Operand) (t t' : TypeId)
    (ho : o.op = .call { callee := .builtin .append, args := #[d, s], argTypes := #[t, t'] }) (v u : Value) (hd : a.eval d = v) (hs : a.eval s = u) {v' : Value} {w1 : World}
    (hr : (Builtin.append_ #[t, t'] o.type #[v, u]).run P w = .ok v' w1) (h : ∀ w', Hid (w' = w1) → K (a.put o.dst v') w') :
    if Region.wanted o (yielded ops a.tmps) = true then Oper.wp P o a w K Q else E := by
  rw [if_pos (by simp [Region.wanted, hgd])]
  unfold Oper.wp execOp
  simp only [ho, resolve, invoke, builtin, Sem.run_bind, Sem.run_pure, Result.andThen_ok, List.map_toArray, List.map_cons, List.map_nil, hd, hs, hr]
  exact h w1 (show w1 = w1 from rfl)

theorem list_append_run {ops : Array Oper} {rest : List Oper} {o : Oper} {a : Act} {w : World} {Q : Exit → Act → World → Prop} (hgd : o.guard = none) (d s : Operand) (t t' : TypeId)
    (ho : o.op = .call { callee := .builtin .append, args := #[d, s], argTypes := #[t, t'] }) (v u : Value) (hd : a.eval d = v) (hs : a.eval s = u) {v' : Value} {w1 : World}
    (hr : (Builtin.append_ #[t, t'] o.type #[v, u]).run P w = .ok v' w1) (h : ∀ w', Hid (w' = w1) → wpList P ops Q rest (a.put o.dst v') w') : wpList P ops Q (o :: rest) a w :=
  wpList_plain hgd fun K hK => by
    unfold Oper.wp execOp
    simp only [ho, resolve, invoke, builtin, Sem.run_bind, Sem.run_pure, Result.andThen_ok, List.map_toArray, List.map_cons, List.map_nil, hd, hs, hr]
    exact hK _ _ (h w1 (show w1 = w1 from rfl))

theorem step_copy_run {ops : Array Oper} {o : Oper} {a : Act} {w : World} {K : Act → World → Prop} {Q : Exit → Act → World → Prop} {E : Prop} (hgd : o.guard = none) (d s : Operand) (t t' : TypeId)
    (ho : o.op = .call { callee := .builtin .copy, args := #[d, s], argTypes := #[t, t'] }) (v u : Value) (hd : a.eval d = v) (hs : a.eval s = u) {v' : Value} {w1 : World}
    (hr : (Builtin.copy_ #[t, t'] o.type #[v, u]).run P w = .ok v' w1) (h : ∀ w', Hid (w' = w1) → K (a.put o.dst v') w') :
    if Region.wanted o (yielded ops a.tmps) = true then Oper.wp P o a w K Q else E := by
  rw [if_pos (by simp [Region.wanted, hgd])]
  unfold Oper.wp execOp
  simp only [ho, resolve, invoke, builtin, Sem.run_bind, Sem.run_pure, Result.andThen_ok, List.map_toArray, List.map_cons, List.map_nil, hd, hs, hr]
  exact h w1 (show w1 = w1 from rfl)

theorem list_copy_run {ops : Array Oper} {rest : List Oper} {o : Oper} {a : Act} {w : World} {Q : Exit → Act → World → Prop} (hgd : o.guard = none) (d s : Operand) (t t' : TypeId)
    (ho : o.op = .call { callee := .builtin .copy, args := #[d, s], argTypes := #[t, t'] }) (v u : Value) (hd : a.eval d = v) (hs : a.eval s = u) {v' : Value} {w1 : World}
    (hr : (Builtin.copy_ #[t, t'] o.type #[v, u]).run P w = .ok v' w1) (h : ∀ w', Hid (w' = w1) → wpList P ops Q rest (a.put o.dst v') w') : wpList P ops Q (o :: rest) a w :=
  wpList_plain hgd fun K hK => by
    unfold Oper.wp execOp
    simp only [ho, resolve, invoke, builtin, Sem.run_bind, Sem.run_pure, Result.andThen_ok, List.map_toArray, List.map_cons, List.map_nil, hd, hs, hr]
    exact hK _ _ (h w1 (show w1 = w1 from rfl))

theorem list_clear_run {ops : Array Oper} {rest : List Oper} {o : Oper} {a : Act} {w : World} {Q : Exit → Act → World → Prop} (hgd : o.guard = none) (d : Operand) (t : TypeId)
    (ho : o.op = .call { callee := .builtin .clear, args := #[d], argTypes := #[t] }) (v : Value) (hd : a.eval d = v) {v' : Value} {w1 : World}
    (hr : (Builtin.clear_ #[t] o.type #[v]).run P w = .ok v' w1) (h : ∀ w', Hid (w' = w1) → wpList P ops Q rest (a.put o.dst v') w') : wpList P ops Q (o :: rest) a w :=
  wpList_plain hgd fun K hK => by
    unfold Oper.wp execOp
    simp only [ho, resolve, invoke, builtin, Sem.run_bind, Sem.run_pure, Result.andThen_ok, List.map_toArray, List.map_cons, List.map_nil, hd, hr]
    exact hK _ _ (h w1 (show w1 = w1 from rfl))
end
end Go.Proofs.YtpfmenepgejgdaaDoor
