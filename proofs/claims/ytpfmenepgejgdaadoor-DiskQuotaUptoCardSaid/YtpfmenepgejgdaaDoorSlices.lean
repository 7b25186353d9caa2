/-
  slices.Clone, Delete, Insert AT ROWS OF ENTRIES: the library's own text walked. Own work.
-/
import Derived.Test.YtpfmenepgejgdaaDoorRow
import Derived.Lib.SliceRun
import Derived.Lib.AppendZerosOnto
import Derived.Lib.Overlaps
import Derived.Laws.CopyOwn
import Derived.Laws.Externs
import Derived.Maps.AppendAt
import Derived.Deep.RegionLaw
import Derived.Deep.DrawnRows
namespace Go.Proofs.YtpfmenepgejgdaaDoor
open Go.RowKit

def ez : Value := .agg #[.string ⟨#[]⟩, .bool false, .slice none 0 0]
theorem info30 : (Tryd.prog.info? 30).map (fun i => (i.zero, i.size, i.bytes)) = some (some ez, 3, 48) := by kernel_rfl

/-- A row of entries of the call's own, in words. -/
def OwnE (w0 w : World) (base : Nat) (v : Value) (es : List Ent) : Prop := ∃ cs, w.ownsRow base 30 3 v es.length cs ∧ EC w0 es cs

def ClonePost (es : List Ent) (w : World) (x : Ending) (w' : World) : Prop := ∃ v', x = .returned v' ∧ OwnE w w' w.heap.size v' es ∧ Below w.heap.size w w'
set_option maxHeartbeats 1000000 in
theorem cloneE_any (es : List Ent) (v : Value) (w : World) (h : Ents w v es) (hn : es.length ≤ 1048576) :
    Calls Tryd.prog 45 #[v] w (ClonePost es w) := by
  obtain ⟨A, c, rfl, hlc, hnone, hcell⟩ := h
  have q22 : ∀ (w : World) (a : Option Addr) (n c n' c' : Nat), (binOp .eql 22 (.slice a n c) (.slice none n' c')).run Tryd.prog w = .ok (.bool a.isNone) w := fun w a n c n' c' => Lib.run_eql_slice_nil w _ _ a n c n' c' Tryd.underlying22
  cases A with
  | none =>
    have h0 : es = [] := List.eq_nil_of_length_eq_zero (by have := hnone rfl; omega)
    subst h0
    clear hcell hnone
    go_enter Tryd.func45, Tryd.ntmps45
    go_wp2
    go_ret
    exact ⟨_, rfl, ⟨[], World.ownsRow_nil w _ _ _, rfl⟩, Below.refl _ _⟩
  | some a =>
    obtain ⟨i0, hi, hz0, hz1, hz2⟩ := info_parts info30
    have HX : ∃ cs, EC w es cs ∧ ∀ j u, cs[j]? = some u → w.cell? (a.add j) = some u := by
      by_cases h0 : 0 < es.length
      · obtain ⟨b, o, e, hc⟩ := hcell h0
        injection e with e
        subst e
        obtain ⟨cs, h1, h2⟩ := EC.of_at hc
        exact ⟨cs, h1, fun j u hj => by rw [Addr.add_lit]; exact h2 j u hj⟩
      · have : es = [] := List.eq_nil_of_length_eq_zero (by omega)
        subst this
        exact ⟨[], rfl, fun j u hj => by simp at hj⟩
    obtain ⟨cs, hcs, hat⟩ := HX
    have HC := Lib.hid hcs
    have HA := Lib.hid hat
    have hl := hcs.len
    clear hcell hnone hat hcs
    go_enter Tryd.func45, Tryd.ntmps45
    go_wp2_with (at_builtin; refine wpList_append_own _ rfl _ _ 22 rfl w.heap.size 30 i0 ez 3 48 Tryd.underlying22 hi hz0 hz1 hz2 rfl (by decide) _ _ _ rfl (World.ownsRow_made w #[] 0 (Nat.le_refl _) (Nat.zero_le _) rfl) a es.length c cs rfl ?qc1 ?qc2 ?qc3 ?qc4 ?qc5 ?qc6 ?_)
    case qc1 => omega
    case qc2 =>
      intro j u hj
      exact Lib.cell?_alloc_some _ (HA.out j u hj)
    case qc3 => exact HC.out.cell1
    case qc4 => unfold maxLen; omega
    case qc5 => omega
    case qc6 => simp
    intro v' w1 hown hgrow hnil
    go_wp2
    go_ret
    refine ⟨v', rfl, ⟨cs, by simpa using hown, HC.out⟩, ?_⟩
    exact ((Below.refl _ w).alloc (Nat.le_refl _) _).grown hgrow (by simp) (by intro k hk; simp [Value.ownBlock] at hk; omega)

theorem own_some {w : World} {base : Nat} {e : TypeId} {size n : Nat} {v : Value} {xs : List Value} (h : w.ownsRow base e size v n xs) (hn : 0 < n) :
    ∃ (g cap : Nat) (cur : List Value), v = .slice (some ⟨g, 0, none⟩) n cap ∧ base ≤ g ∧ Bk w g e cur.toArray ∧ n ≤ cap ∧ cap ≤ maxLen ∧ cur.length = cap * size ∧ cur.take (n * size) = xs := by
  rcases h.2 with ⟨_, h0⟩ | ⟨g, cap, cur, rfl, h1, h2, h3, h4, h5, h6⟩
  · omega
  · exact ⟨g, cap, cur.toList, rfl, h1, by rw [Bk, Array.toArray_toList]; exact h2, h3, h4, by simpa using h5, h6⟩

theorem grown_refl (w : World) (row : Option Nat) : w.grownBy w row := ⟨rfl, rfl, rfl, Nat.le_refl _, fun _ _ _ => rfl⟩
theorem grown_drew {w w1 : World} {row : Option Nat} (h : w.grownBy w1 row) : w.grownBy w1.drew row := ⟨h.os, h.tape, h.output, h.size, h.block⟩
theorem grown_setRow {w w1 : World} {row : Option Nat} (h : w.grownBy w1 row) {g : Nat} (hg : some g = row ∨ w.heap.size ≤ g) (cs : Array Value) : w.grownBy (w1.setRow g cs) row :=
  ⟨h.os, h.tape, h.output, by have := h.size; simpa [World.setRow] using this, fun k hk hne => (setRow_other w1 g k cs (by
    rintro rfl
    rcases hg with e | e
    · exact hne e
    · omega)).trans (h.block k hk hne)⟩
theorem grown_alloc {w w1 : World} {row : Option Nat} (h : w.grownBy w1 row) (o : Obj) : w.grownBy (w1.alloc o) row :=
  ⟨h.os, h.tape, h.output, by have := h.size; simp; omega, fun k hk hne => (Below.heap_alloc w1 o k (by have := h.size; omega)).trans (h.block k hk hne)⟩
def DelPost (row : Option Nat) (base n i : Nat) (cs : List Value) (w : World) (x : Ending) (w' : World) : Prop :=
  ∃ v', x = .returned v' ∧ w'.ownsRow base 30 3 v' (n - 1) (cs.take (i * 3) ++ cs.drop (i * 3 + 3)) ∧ Below base w w' ∧ w.grownBy w' row

theorem del_row {cur cs : List Value} {n i cap : Nat} (hcl : cur.length = cap * 3) (hnc : n ≤ cap) (htk : cur.take (n * 3) = cs) (hin : i < n) (z : List Value) (_ : z.length = 3) :
    (splice (splice cur (i * 3) (cs.drop (i * 3 + 3))) ((n - 1) * 3) z).take ((n - 1) * 3) = cs.take (i * 3) ++ cs.drop (i * 3 + 3) := by
  have hcsl : cs.length = n * 3 := by rw [← htk, List.length_take]; omega
  have hd : (cs.drop (i * 3 + 3)).length = (n - 1 - i) * 3 := by rw [List.length_drop]; omega
  have e1 : cur.take (i * 3) = cs.take (i * 3) := by rw [← htk, List.take_take]; congr 1; omega
  have l1 : (cs.take (i * 3)).length = i * 3 := by rw [List.length_take]; omega
  have e2 : (splice cur (i * 3) (cs.drop (i * 3 + 3))).take ((n - 1) * 3) = cs.take (i * 3) ++ cs.drop (i * 3 + 3) := by
    unfold splice
    rw [e1, ← List.append_assoc]
    have l2 : (cs.take (i * 3) ++ cs.drop (i * 3 + 3)).length = (n - 1) * 3 := by rw [List.length_append, l1, hd]; omega
    rw [← l2]
    exact List.take_left
  rw [splice, List.take_append_of_le_length (by rw [List.length_take, length_splice _ _ _ (by rw [hd]; omega)]; omega), List.take_take, Nat.min_self, e2]

attribute [local go_sem ↓] Go.wp_at_zero Go.wp_at_succ
set_option maxRecDepth 100000 in
set_option maxHeartbeats 2000000 in
theorem deleteE_any (base n i : Nat) (cs : List Value) (v : Value) (w : World) (h : w.ownsRow base 30 3 v n cs) (hin : i < n) (hn : n ≤ 1048576) (h1 : ∀ u ∈ cs, u.oneCell' = true) :
    Calls Tryd.prog 44 #[v, .int .i64 i, .int .i64 (i + 1)] w (DelPost v.ownBlock base n i cs w) := by
  obtain ⟨g, cap, cur, rfl, hbg, hB, hnc, hcm, hcl, htk⟩ := own_some h (by omega)
  unfold maxLen at hcm
  clear h
  obtain ⟨k, hk⟩ : ∃ k, k = n - 1 := ⟨_, rfl⟩
  obtain ⟨i0, hi, _, hz1, _⟩ := info_parts info30
  -- what is moved
  obtain ⟨news, hnews⟩ : ∃ news, news = (cs.drop (i * 3 + 3)) := ⟨_, rfl⟩
  have hcsl : cs.length = n * 3 := by rw [← htk, List.length_take]; omega
  have hlen : news.length = (n - (i + 1)) * 3 := by rw [hnews, List.length_drop]; omega
  obtain ⟨ao, hA, hsrc⟩ : ∃ ao : Option Addr, (if cap = i + 1 then some (⟨g, 0, none⟩ : Addr) else some ⟨g, (i + 1) * 3, none⟩) = ao ∧ (0 < n - (i + 1) → ∃ ad, ao = some ad ∧ ∀ j u, news[j]? = some u → w.drew.cell? (ad.add j) = some u) := by
    refine ⟨_, rfl, fun hp => ?_⟩
    rw [if_neg (by omega)]
    refine ⟨_, rfl, fun j u hj => ?_⟩
    have hc := hB.cell ((i + 1) * 3 + j)
    rw [Addr.add_lit]
    refine hc.trans ?_
    rw [hnews, ← htk, List.getElem?_drop] at hj
    rw [show (i + 1) * 3 + j = i * 3 + 3 + j by omega]
    have hj2 := hj
    rw [List.getElem?_take] at hj2
    split at hj2
    · simpa using hj2
    · cases hj2
  have HR : ∀ ty c, (Builtin.append_ #[22, 22] ty #[.slice (some ⟨g, 0, none⟩) i cap, .slice ao (n - (i + 1)) c]).run Tryd.prog w.drew =
      .ok (.slice (some ⟨g, 0, none⟩) k cap) (w.drew.setRow g (splice cur (i * 3) news).toArray) := fun ty c => by
    have := run_append_sp w.drew 22 ty _ i0 Tryd.underlying22 hi hz1 g i cap cur hB ao (n - (i + 1)) c news hlen hsrc (fun u hu => h1 u (by rw [hnews] at hu; exact List.mem_of_mem_drop hu)) (by omega) (by omega)
    rw [show i + (n - (i + 1)) = k by omega] at this
    exact this
  -- behind the append
  obtain ⟨W1, hW1⟩ : ∃ W1, W1 = w.drew.setRow g (splice cur (i * 3) news).toArray := ⟨_, rfl⟩
  have HB1 : Bk W1 g 30 (splice cur (i * 3) news).toArray := by rw [hW1]; exact setRow_heap w.drew g _ _ _ _ hB
  have hzv : ∀ w, (zeroValue 30).run Tryd.prog w = .ok ez w := fun _ => by kernel_rfl
  have HCl : ∀ ty c, (Builtin.clear_ #[22] ty #[.slice (some ⟨g, k * 3, none⟩) 1 c]).run Tryd.prog W1 =
      .ok (.tuple #[]) (W1.setRow g (splice (splice cur (i * 3) news) (k * 3) [.string ⟨#[]⟩, .bool false, .slice none 0 0]).toArray) := fun ty c =>
    run_clear_sp W1 _ ty _ [.string ⟨#[]⟩, .bool false, .slice none 0 0] ez Tryd.underlying22 hzv (by kernel_rfl) (by simp [Value.oneCell']) g (k * 3) c (splice cur (i * 3) news) HB1 (by rw [length_splice _ _ _ (by omega)]; simp; omega)
  have HFin : (W1.setRow g (splice (splice cur (i * 3) news) (k * 3) [.string ⟨#[]⟩, .bool false, .slice none 0 0]).toArray).ownsRow base 30 3 (.slice (some ⟨g, 0, none⟩) k cap) (n - 1) (cs.take (i * 3) ++ cs.drop (i * 3 + 3)) := by
    refine ⟨by simp [hcsl]; omega, .inr ⟨g, cap, _, by rw [hk], hbg, setRow_heap W1 g _ _ _ _ HB1, by omega, by unfold maxLen; omega, ?_, ?_⟩⟩
    · rw [List.size_toArray, length_splice _ _ _ (by rw [length_splice _ _ _ (by omega)]; simp; omega), length_splice _ _ _ (by omega), hcl]
    · rw [hnews, hk]
      exact del_row hcl hnc htk hin _ rfl
  have HBel : Below base w (W1.setRow g (splice (splice cur (i * 3) news) (k * 3) [.string ⟨#[]⟩, .bool false, .slice none 0 0]).toArray) := by
    rw [hW1]
    exact below_setRow (below_setRow (Below.refl base w).drew hbg _) hbg _
  have HGr : w.grownBy (W1.setRow g (splice (splice cur (i * 3) news) (k * 3) [.string ⟨#[]⟩, .bool false, .slice none 0 0]).toArray) (some g) := by
    rw [hW1]
    exact grown_setRow (grown_setRow (grown_drew (grown_refl w _)) (.inl rfl) _) (.inl rfl) _
  have KG := Lib.hid HGr
  have F := Lib.hid HFin
  have G := Lib.hid HBel
  have W := Lib.hid hW1
  have C := Lib.hid HCl
  have R := Lib.hid HR
  have b1 : (i : Int) < (n : Int) := by omega
  have b2 : (n : Int) ≤ (cap : Int) := by omega
  have b3 : (0 : Int) ≤ (i : Int) := by omega
  have b4 : (0 : Int) ≤ (i : Int) + 1 := by omega
  have b5 : (i : Int) + 1 ≤ (n : Int) := by omega
  have hic : i ≤ cap := by omega
  have hjc : i + 1 ≤ cap := by omega
  have b6 : k ≤ n := by omega
  have b7 : ¬ (cap = k) := by omega
  have b8 : n - k = 1 := by omega
  clear HFin HBel HGr hW1 HCl HR HB1 hsrc hnews hlen hcsl hB htk h1 hcl hzv hi hz1 hk
  go_enter Tryd.func44, Tryd.ntmps44
  go_wp2
  go_region_law ((refine step_append_run rfl (.tmp 22) (.tmp 25) 22 22 rfl (.slice (some ⟨g, 0, none⟩) i cap) (.slice ao (n - (i + 1)) (cap - (i + 1))) (by simp [Act.eval, Act.put]) (by simp [Act.eval, Act.put]) (R.out _ _) ?_; intro w2 H2))
  obtain rfl := H2.out.trans W.out.symm
  go_wp2_with ((refine list_clear_run rfl (.tmp 31) 22 rfl (.slice (some ⟨g, k * 3, none⟩) 1 (cap - k)) (by rfl) (C.out _ _) ?_); intro w3 H3)
  go_ret
  exact ⟨_, rfl, by rw [H3.out]; exact F.out, by rw [H3.out]; exact G.out, by rw [H3.out]; exact KG.out⟩
end Go.Proofs.YtpfmenepgejgdaaDoor
