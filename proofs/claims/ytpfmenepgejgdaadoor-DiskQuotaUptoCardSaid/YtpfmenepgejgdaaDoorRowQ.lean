/-
  ROWS OF THE CALL'S OWN WHOSE CELLS, THE SPARE ONES TOO, ALL HAVE A PROPERTY: append keeps it. Plain laws on the model's run. Own work.
-/
import Derived.Test.YtpfmenepgejgdaaDoorSlices
import Derived.Deep.AppendLies
namespace Go.Proofs.YtpfmenepgejgdaaDoor
open Go.RowKit

def OwnQ (q : Value → Prop) (w : World) (base : Nat) (e : TypeId) (size : Nat) (v : Value) (n : Nat) (xs : List Value) : Prop :=
  xs.length = n * size ∧ ((v = .slice none 0 0 ∧ n = 0) ∨ ∃ g cap cur, v = .slice (some ⟨g, 0, none⟩) n cap ∧ base ≤ g ∧ Bk w g e cur ∧ n ≤ cap ∧ cap ≤ maxLen ∧ cur.size = cap * size ∧ cur.toList.take (n * size) = xs ∧ ∀ u ∈ cur, q u)
/-- Every cell of the value's own block has it. -/
def BlkQ (q : Value → Prop) (w : World) (row : Option Nat) : Prop := ∀ g, row = some g → ∃ t cs, Bk w g t cs ∧ ∀ u ∈ cs, q u
section
variable {q : Value → Prop} {w w1 : World} {base : Nat} {e : TypeId} {size n : Nat} {v : Value} {xs : List Value}
theorem OwnQ.own (h : OwnQ q w base e size v n xs) : w.ownsRow base e size v n xs := by
  obtain ⟨h0, h⟩ := h
  refine ⟨h0, ?_⟩
  rcases h with h | ⟨g, cap, cur, rfl, h1, h2, h3, h4, h5, h6, _⟩
  · exact .inl h
  · exact .inr ⟨g, cap, cur, rfl, h1, h2, h3, h4, h5, h6⟩
theorem OwnQ.nil (q : Value → Prop) (w : World) (base : Nat) (e : TypeId) (size : Nat) : OwnQ q w base e size (.slice none 0 0) 0 [] := ⟨by simp, .inl ⟨rfl, rfl⟩⟩
theorem OwnQ.blk (h : OwnQ q w base e size v n xs) : BlkQ q w v.ownBlock := by
  rcases h.2 with ⟨rfl, _⟩ | ⟨g, cap, cur, rfl, _, h2, _, _, _, _, h7⟩
  · intro g hg
    simp [Value.ownBlock] at hg
  · intro g' hg
    simp only [Value.ownBlock, Option.some.injEq] at hg
    subst hg
    exact ⟨_, _, h2, h7⟩
theorem OwnQ.below (h : OwnQ q w base e size v n xs) (hb : Below w.heap.size w w1) : OwnQ q w1 base e size v n xs := by
  refine ⟨h.1, ?_⟩
  rcases h.2 with h | ⟨g, cap, cur, h1, h2, h3, h4⟩
  · exact .inl h
  · exact .inr ⟨g, cap, cur, h1, h2, h3.after hb, h4⟩
/-- Behind a store elsewhere. -/
theorem OwnQ.other (h : OwnQ q w base e size v n xs) {p : Addr} (hp : v.ownBlock ≠ some p.block) (u : Value) : OwnQ q (w.setCell p u) base e size v n xs := by
  refine ⟨h.1, ?_⟩
  rcases h.2 with h | ⟨g, cap, cur, rfl, h2, h3, h4⟩
  · exact .inl h
  · exact .inr ⟨g, cap, cur, rfl, h2, h3.far (by simpa [Value.ownBlock] using hp) u, h4⟩
theorem OwnQ.form (h : OwnQ q w base e size v n xs) : ∃ A cap, v = .slice A n cap := by
  rcases h.2 with ⟨rfl, rfl⟩ | ⟨g, cap, cur, rfl, _⟩
  · exact ⟨_, _, rfl⟩
  · exact ⟨_, _, rfl⟩
theorem OwnQ.lt (h : OwnQ q w base e size v n xs) : ∀ g, v.ownBlock = some g → base ≤ g ∧ g < w.heap.size := by
  rcases h.2 with ⟨rfl, _⟩ | ⟨g, cap, cur, rfl, h1, h2, _⟩
  · intro g hg
    simp [Value.ownBlock] at hg
  · intro g' hg
    simp only [Value.ownBlock, Option.some.injEq] at hg
    subst hg
    exact ⟨h1, h2.lt⟩
end

theorem mem_zeroCells {z : Array Value} {n : Nat} {u : Value} (hz : 0 < z.size) (h : u ∈ Builtin.zeroCells z n) : u ∈ z := by
  unfold Builtin.zeroCells at h
  rw [Array.mem_map] at h
  obtain ⟨i, _, rfl⟩ := h
  have hlt : i % z.size < z.size := Nat.mod_lt _ hz
  rw [getElem!_pos z (i % z.size) hlt]
  exact Array.getElem_mem hlt

section
variable {P : Program} (w : World)
/-- Something is appended to a row of the call's own: the cells keep their property. -/
theorem run_append_q (q : Value → Prop) (t ty : TypeId) (base : Nat) (e : TypeId) (i : TypeInfo) (z : Value) (size bytes : Nat) (ht : P.underlying t = some (.slice e)) (hi : P.info? e = some i) (hz : i.zero = some z)
    (hsize : i.size = size) (hby : i.bytes = bytes) (hzs : z.cells.size = size) (hsz : 0 < size) (hqz : ∀ u ∈ z.cells, q u)
    (v : Value) (n : Nat) (xs : List Value) (hown : OwnQ q w base e size v n xs)
    (ad : Addr) (m c : Nat) (news : List Value) (hl : news.length = m * size) (hnews : ∀ j u, news[j]? = some u → w.cell? (ad.add j) = some u) (h1 : ∀ u ∈ news, u.oneCell' = true ∧ q u)
    (hm : 0 < m) (h63 : n + m ≤ maxLen) (hbytes : (n + m) * bytes ≤ 140737488355328) (hbase : base ≤ w.heap.size) :
    ∃ g cap w', (Builtin.append_ #[t, t] ty #[v, .slice (some ad) m c]).run P w = .ok (.slice (some ⟨g, 0, none⟩) (n + m) cap) w' ∧
      OwnQ q w' base e size (.slice (some ⟨g, 0, none⟩) (n + m) cap) (n + m) (xs ++ news) ∧ w.grownBy w' v.ownBlock ∧ (v.ownBlock = some g ∨ g = w.heap.size) ∧ g < w'.heap.size := by
  obtain ⟨v', w', hr, h2, h3, h4⟩ := run_append_own (P := P) w base t ty e i z size bytes ht hi hz hsize hby hzs hsz v n xs hown.own ad m c news hl hnews (fun u hu => (h1 u hu).1) h63 hbytes hbase
  subst hsize
  subst hby
  have hsmall : n + m ≤ 9223372036854775807 := by simp only [maxLen] at h63; omega
  have hlen : (xs ++ news).length = (n + m) * i.size := by rw [List.length_append, hown.1, hl, Nat.add_mul]
  have hzq : ∀ k, ∀ u ∈ Builtin.zeroCells z.cells k, q u := fun k u hu => hqz u (mem_zeroCells (by omega) hu)
  have grown : ∀ (old : Nat), old < n + m → (∀ u ∈ xs, q u) → ∃ cap, (.slice (some ⟨w.heap.size, 0, none⟩) (n + m) (grownCap w (n + m) old e) : Value) = .slice (some ⟨w.heap.size, 0, none⟩) (n + m) cap ∧
      OwnQ q (w.drew.alloc (.cells (xs.toArray ++ news.toArray ++ Builtin.zeroCells z.cells (grownCap w (n + m) old e - (n + m))) e)) base e i.size (.slice (some ⟨w.heap.size, 0, none⟩) (n + m) cap) (n + m) (xs ++ news) := by
    intro old ho hxs
    have hge := grownCap_ge w (n + m) old e
    have hcm : grownCap w (n + m) old e ≤ maxLen := grownCap_le_maxLen w (n + m) old e h63
    refine ⟨_, rfl, hlen, .inr ⟨w.heap.size, _, _, rfl, hbase, heap_alloc_new w.drew _, hge, hcm, ?_, ?_, ?_⟩⟩
    · simp only [Array.size_append, List.size_toArray, size_zeroCells, hzs, hown.1, hl, ← Nat.add_mul]
      congr 1
      omega
    · simp only [Array.toList_append, List.append_assoc]
      rw [← List.append_assoc, ← hlen]
      exact List.take_left
    · intro u hu
      rw [Array.mem_append, Array.mem_append] at hu
      rcases hu with (hu | hu) | hu
      · exact hxs u (by simpa using hu)
      · exact (h1 u (by simpa using hu)).2
      · exact hzq _ u hu
  have done : ∀ (x : Value) (W : World), (Builtin.append_ #[t, t] ty #[v, .slice (some ad) m c]).run P w = .ok x W → (∃ g cap, x = .slice (some ⟨g, 0, none⟩) (n + m) cap ∧ OwnQ q W base e i.size (.slice (some ⟨g, 0, none⟩) (n + m) cap) (n + m) (xs ++ news) ∧ (v.ownBlock = some g ∨ g = w.heap.size)) →
      ∃ g cap w', (Builtin.append_ #[t, t] ty #[v, .slice (some ad) m c]).run P w = .ok (.slice (some ⟨g, 0, none⟩) (n + m) cap) w' ∧
      OwnQ q w' base e i.size (.slice (some ⟨g, 0, none⟩) (n + m) cap) (n + m) (xs ++ news) ∧ w.grownBy w' v.ownBlock ∧ (v.ownBlock = some g ∨ g = w.heap.size) ∧ g < w'.heap.size := by
    rintro x W hx ⟨g, cap, rfl, hq, hg⟩
    rw [hx] at hr
    injection hr with e1 e2
    subst e1 e2
    exact ⟨g, cap, W, hx, hq, h3, hg, (hq.lt g rfl).2⟩
  rcases hown.2 with ⟨rfl, rfl⟩ | ⟨g, cap, cur, rfl, hbg, hg, hnc, hcm, hcs, htake, hq⟩
  · have hx : xs = [] := List.eq_nil_of_length_eq_zero (by simpa using hown.1)
    subst hx
    have hr := run_append_nil (P := P) w t ty e i z ht hi hz ad m c news hl hnews (by omega) (by omega) (by have hb := hbytes; simp only [Nat.zero_add] at hb; omega)
    obtain ⟨cap, hc, hgr⟩ := grown 0 (by omega) (by simp)
    simp only [Nat.zero_add, List.nil_append, Array.empty_append] at hgr hc done ⊢
    exact done _ _ hr ⟨w.heap.size, cap, hc, hgr, .inr rfl⟩
  · have hxq : ∀ u ∈ xs, q u := fun u hu => hq u (by rw [← htake] at hu; exact Array.mem_toList_iff.1 (List.mem_of_mem_take hu))
    by_cases hroom : n + m ≤ cap
    · have hfit : n * i.size + news.length ≤ cur.size := by rw [hl, hcs, ← Nat.add_mul]; exact Nat.mul_le_mul_right _ hroom
      have hr := run_append_room (P := P) w t ty e i ht hi g n cap cur hg ad m c news hl hnews (fun u hu => (h1 u hu).1) hroom hfit
      refine done _ _ hr ⟨g, cap, rfl, ⟨hlen, .inr ⟨g, cap, _, rfl, hbg, setRow_heap w g cur _ e _ hg, hroom, hcm, ?_, ?_, ?_⟩⟩, .inl rfl⟩
      · rw [List.size_toArray, List.length_append, List.length_append, List.length_take, List.length_drop, Array.length_toList]
        omega
      · rw [htake, ← hlen]
        exact List.take_left
      · intro u hu
        rw [List.mem_toArray, List.mem_append, List.mem_append] at hu
        rcases hu with (hu | hu) | hu
        · exact hq u (Array.mem_toList_iff.1 (List.mem_of_mem_take hu))
        · exact (h1 u hu).2
        · exact hq u (Array.mem_toList_iff.1 (List.mem_of_mem_drop hu))
    · have holds : ∀ j u, xs[j]? = some u → w.cell? ((⟨g, 0, none⟩ : Addr).add j) = some u := fun j u hj => hown.own.cells (g := g) rfl j u hj
      have hr := run_append_grow (P := P) w t ty e i z ht hi hz ⟨g, 0, none⟩ n cap xs hown.1 holds ad m c news hl hnews (by omega) (by omega) (growslice_fits (by omega) hbytes)
      obtain ⟨cap', hc, hgr⟩ := grown cap (by omega) hxq
      exact done _ _ hr ⟨w.heap.size, cap', hc, hgr, .inr rfl⟩

theorem wp_append_q {o : Oper} {a : Act} {K : Act → World → Prop} {Q : Exit → Act → World → Prop} (s x : Operand) (t : TypeId)
    (ho : o.op = .call { callee := .builtin .append, args := #[s, x], argTypes := #[t, t] }) (q : Value → Prop)
    (base : Nat) (e : TypeId) (i : TypeInfo) (z : Value) (size bytes : Nat) (ht : P.underlying t = some (.slice e)) (hi : P.info? e = some i) (hz : i.zero = some z)
    (hsize : i.size = size) (hby : i.bytes = bytes) (hzs : z.cells.size = size) (hsz : 0 < size) (hqz : ∀ u ∈ z.cells, q u)
    (v : Value) (n : Nat) (xs : List Value) (hs : a.eval s = v) (hown : OwnQ q w base e size v n xs)
    (ad : Addr) (m c : Nat) (news : List Value) (hx : a.eval x = .slice (some ad) m c) (hl : news.length = m * size) (hnews : ∀ j u, news[j]? = some u → w.cell? (ad.add j) = some u) (h1 : ∀ u ∈ news, u.oneCell' = true ∧ q u)
    (hm : 0 < m) (h63 : n + m ≤ maxLen) (hbytes : (n + m) * bytes ≤ 140737488355328) (hbase : base ≤ w.heap.size)
    (h : ∀ g cap w', OwnQ q w' base e size (.slice (some ⟨g, 0, none⟩) (n + m) cap) (n + m) (xs ++ news) → w.grownBy w' v.ownBlock → (v.ownBlock = some g ∨ g = w.heap.size) → g < w'.heap.size → K (a.put o.dst (.slice (some ⟨g, 0, none⟩) (n + m) cap)) w') : o.wp P a w K Q := by
  obtain ⟨g, cap, w', hr, h2, h3, h4, h5⟩ := run_append_q (P := P) w q t o.type base e i z size bytes ht hi hz hsize hby hzs hsz hqz v n xs hown ad m c news hl hnews h1 hm h63 hbytes hbase
  unfold Oper.wp execOp
  simp only [ho, resolve, invoke, builtin, Sem.run_bind, Sem.run_pure, Result.andThen_ok, List.map_toArray, List.map_cons, List.map_nil, hs, hx, hr]
  exact h g cap w' h2 h3 h4 h5
/-- At a plain region's list. -/
theorem wpList_append_q {ops : Array Oper} {rest : List Oper} {o : Oper} {a : Act} {Q : Exit → Act → World → Prop} (hgd : o.guard = none) (s x : Operand) (t : TypeId)
    (ho : o.op = .call { callee := .builtin .append, args := #[s, x], argTypes := #[t, t] }) (q : Value → Prop)
    (base : Nat) (e : TypeId) (i : TypeInfo) (z : Value) (size bytes : Nat) (ht : P.underlying t = some (.slice e)) (hi : P.info? e = some i) (hz : i.zero = some z)
    (hsize : i.size = size) (hby : i.bytes = bytes) (hzs : z.cells.size = size) (hsz : 0 < size) (hqz : ∀ u ∈ z.cells, q u)
    (v : Value) (n : Nat) (xs : List Value) (hs : a.eval s = v) (hown : OwnQ q w base e size v n xs)
    (ad : Addr) (m c : Nat) (news : List Value) (hx : a.eval x = .slice (some ad) m c) (hl : news.length = m * size) (hnews : ∀ j u, news[j]? = some u → w.cell? (ad.add j) = some u) (h1 : ∀ u ∈ news, u.oneCell' = true ∧ q u)
    (hm : 0 < m) (h63 : n + m ≤ maxLen) (hbytes : (n + m) * bytes ≤ 140737488355328) (hbase : base ≤ w.heap.size)
    (h : ∀ g cap w', OwnQ q w' base e size (.slice (some ⟨g, 0, none⟩) (n + m) cap) (n + m) (xs ++ news) → w.grownBy w' v.ownBlock → (v.ownBlock = some g ∨ g = w.heap.size) → g < w'.heap.size → wpList P ops Q rest (a.put o.dst (.slice (some ⟨g, 0, none⟩) (n + m) cap)) w') : wpList P ops Q (o :: rest) a w :=
  wpList_plain hgd fun _ hK => wp_append_q w s x t ho q base e i z size bytes ht hi hz hsize hby hzs hsz hqz v n xs hs hown ad m c news hx hl hnews h1 hm h63 hbytes hbase fun g cap w' h2 h3 h4 h5 => hK _ _ (h g cap w' h2 h3 h4 h5)
/-- At a step of a drawn region. -/
theorem step_append_q {ops : Array Oper} {o : Oper} {a : Act} {K : Act → World → Prop} {Q : Exit → Act → World → Prop} {E : Prop} (hgd : o.guard = none) (s x : Operand) (t : TypeId)
    (ho : o.op = .call { callee := .builtin .append, args := #[s, x], argTypes := #[t, t] }) (q : Value → Prop)
    (base : Nat) (e : TypeId) (i : TypeInfo) (z : Value) (size bytes : Nat) (ht : P.underlying t = some (.slice e)) (hi : P.info? e = some i) (hz : i.zero = some z)
    (hsize : i.size = size) (hby : i.bytes = bytes) (hzs : z.cells.size = size) (hsz : 0 < size) (hqz : ∀ u ∈ z.cells, q u)
    (v : Value) (n : Nat) (xs : List Value) (hs : a.eval s = v) (hown : OwnQ q w base e size v n xs)
    (ad : Addr) (m c : Nat) (news : List Value) (hx : a.eval x = .slice (some ad) m c) (hl : news.length = m * size) (hnews : ∀ j u, news[j]? = some u → w.cell? (ad.add j) = some u) (h1 : ∀ u ∈ news, u.oneCell' = true ∧ q u)
    (hm : 0 < m) (h63 : n + m ≤ maxLen) (hbytes : (n + m) * bytes ≤ 140737488355328) (hbase : base ≤ w.heap.size)
    (h : ∀ g cap w', OwnQ q w' base e size (.slice (some ⟨g, 0, none⟩) (n + m) cap) (n + m) (xs ++ news) → w.grownBy w' v.ownBlock → (v.ownBlock = some g ∨ g = w.heap.size) → g < w'.heap.size → K (a.put o.dst (.slice (some ⟨g, 0, none⟩) (n + m) cap)) w') :
    if Region.wanted o (yielded ops a.tmps) = true then Oper.wp P o a w K Q else E := by
  have hw : Region.wanted o (yielded ops a.tmps) = true := by simp [Region.wanted, hgd]
  rw [if_pos hw]
  exact wp_append_q w s x t ho q base e i z size bytes ht hi hz hsize hby hzs hsz hqz v n xs hs hown ad m c news hx hl hnews h1 hm h63 hbytes hbase h
end

/-! ### bytes and entries behind a write into a row without bytes -/
/-- No byte. -/
def NB (u : Value) : Prop := ∀ x : Int, u ≠ .int .u8 x
theorem Byt.grownQ {w w1 : World} {v : Value} {bs : List UInt8} {row : Option Nat} (h : Byt w v bs) (hg : w.grownBy w1 row) (hr : BlkQ NB w row) : Byt w1 v bs := by
  obtain ⟨A, c, rfl, h2, h3, h4⟩ := h
  refine ⟨A, c, rfl, h2, h3, fun hp => ?_⟩
  obtain ⟨b, o, rfl, h5⟩ := h4 hp
  refine ⟨b, o, rfl, fun j x hj => ?_⟩
  have hc := h5 j x hj
  have hlt : b < w.heap.size := World.block_lt_of_cell? w _ hc
  have hne : some b ≠ row := by
    intro e
    obtain ⟨t, cs, hB, hq⟩ := hr b e.symm
    rw [hB.cell] at hc
    exact hq _ (Array.mem_of_getElem? hc) _ rfl
  exact (World.cell?_of_block (w := w) (a := ⟨b, o + j, none⟩) (hg.block b hlt hne)).trans hc
theorem EC.grownQ {w w1 : World} {row : Option Nat} (hg : w.grownBy w1 row) (hr : BlkQ NB w row) : ∀ {es : List Ent} {cs : List Value}, EC w es cs → EC w1 es cs
  | [], _, h => h
  | e :: r, _, h => by
    obtain ⟨u, t, rfl, hu, h⟩ := h
    exact ⟨u, t, rfl, hu.grownQ hg hr, EC.grownQ hg hr h⟩
theorem EC.qb {w : World} : ∀ {es : List Ent} {cs : List Value}, EC w es cs → ∀ u ∈ cs, u.oneCell' = true ∧ NB u
  | [], _, h => by rw [show _ = [] from h]; simp
  | e :: r, _, h => by
    obtain ⟨u, t, rfl, ⟨A, c, rfl, _⟩, h⟩ := h
    intro x hx
    rcases List.mem_cons.1 hx with rfl | hx
    · exact ⟨rfl, fun _ => by simp⟩
    rcases List.mem_cons.1 hx with rfl | hx
    · exact ⟨rfl, fun _ => by simp⟩
    rcases List.mem_cons.1 hx with rfl | hx
    · exact ⟨rfl, fun _ => by simp⟩
    exact EC.qb h x hx
end Go.Proofs.YtpfmenepgejgdaaDoor
