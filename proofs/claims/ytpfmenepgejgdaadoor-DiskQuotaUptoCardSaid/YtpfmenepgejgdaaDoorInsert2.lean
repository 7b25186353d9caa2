/-
  slices.Insert AT ROWS OF ENTRIES where there is no room; all roads together. Own work.
-/
import Derived.Test.YtpfmenepgejgdaaDoorInsert
namespace Go.Proofs.YtpfmenepgejgdaaDoor
open Go.RowKit

theorem ins_row2 {olds news mv rest : List Value} {i n : Nat} {Z : List Value} (hi : i ≤ n) (h0 : olds.length = i * 3) (hZ : Z.length = (n + 1 - i) * 3) (hl : news.length = 3) (hm : mv.length = (n - i) * 3) :
    (splice (splice (olds ++ Z ++ rest) (i * 3) news) ((i + 1) * 3) mv).take ((n + 1) * 3) = olds ++ (news ++ mv) := by
  have a0 : splice (olds ++ Z ++ rest) (i * 3) news = olds ++ (news ++ (Z.drop 3 ++ rest)) := by
    unfold splice
    rw [List.append_assoc, List.take_left' h0, hl]
    congr 2
    rw [show i * 3 + 3 = olds.length + 3 by omega, List.drop_append, List.drop_of_length_le (by omega), List.nil_append, Nat.add_sub_cancel_left, List.drop_append]
    rw [show 3 - Z.length = 0 by omega, List.drop_zero]
  rw [a0]
  unfold splice
  have l1 : (olds ++ news).length = (i + 1) * 3 := by rw [List.length_append, h0, hl]; omega
  rw [← List.append_assoc olds, List.take_left' l1, ← List.append_assoc (olds ++ news)]
  have l2 : (olds ++ news ++ mv).length = (n + 1) * 3 := by rw [List.length_append, l1, hm]; omega
  rw [List.take_left' l2, List.append_assoc]

attribute [local go_sem ↓] Go.wp_at_zero Go.wp_at_succ
set_option maxRecDepth 100000 in
set_option maxHeartbeats 4000000 in
/-- No room, and not at the end: a new row. -/
theorem insert_grow (base n i g cap vb : Nat) (cs cur : List Value) (c0 c1 c2 : Value) (w : World) (hbase : base ≤ w.heap.size) (hB : Bk w g 30 cur.toArray) (hcl : cur.length = cap * 3) (htk : cur.take (n * 3) = cs) (hcm : cap ≤ 9223372036854775807)
    (hin : i < n) (hnc : n ≤ cap) (hfull : cap < n + 1) (hn : n ≤ 1048576) (h1 : ∀ u ∈ cs, u.oneCell' = true) (h1v : ∀ u ∈ [c0, c1, c2], u.oneCell' = true) (hV : Bk w vb 30 #[c0, c1, c2]) :
    Calls Tryd.prog 76 #[.slice (some ⟨g, 0, none⟩) n cap, .int .i64 i, .slice (some ⟨vb, 0, none⟩) 1 1] w (InsPost (some g) base n i cs [c0, c1, c2] w) := by
  obtain ⟨i0, hi, hz0, hz1, hz2⟩ := info_parts info30
  have hcsl : cs.length = n * 3 := by rw [← htk, List.length_take]; omega
  have hd : (cs.drop (i * 3)).length = (n - i) * 3 := by rw [List.length_drop]; omega
  have ho : (cs.take (i * 3)).length = i * 3 := by rw [List.length_take]; omega
  obtain ⟨gc, hgc⟩ : ∃ gc, gc = grownCap w (n + 1) cap 30 := ⟨_, rfl⟩
  have hge : n + 1 ≤ gc := by rw [hgc]; exact grownCap_ge w (n + 1) cap _
  have hgm : gc ≤ maxLen := by rw [hgc]; exact grownCap_le_maxLen w (n + 1) cap _ (by unfold maxLen; omega)
  unfold maxLen at hgm
  obtain ⟨Z, hZ⟩ : ∃ Z, Z = (Builtin.zeroCells ez.cells (n + 1 - i)).toList := ⟨_, rfl⟩
  obtain ⟨rest, hrest⟩ : ∃ rest, rest = (Builtin.zeroCells ez.cells (gc - (n + 1))).toList := ⟨_, rfl⟩
  have hZl : Z.length = (n + 1 - i) * 3 := by rw [hZ, Array.length_toList, size_zeroCells]; rfl
  have hrl : rest.length = (gc - (n + 1)) * 3 := by rw [hrest, Array.length_toList, size_zeroCells]; rfl
  obtain ⟨cu, hcu⟩ : ∃ cu, cu = cs.take (i * 3) ++ Z ++ rest := ⟨_, rfl⟩
  have hcul : cu.length = gc * 3 := by rw [hcu, List.length_append, List.length_append, ho, hZl, hrl]; omega
  obtain ⟨W1, hW1⟩ : ∃ W1, W1 = w.drew.alloc (.cells cu.toArray 30) := ⟨_, rfl⟩
  have HR0 : ∀ ty, (Builtin.append_ #[22, 3] ty #[.slice (some ⟨g, 0, none⟩) i cap, .int .i64 ((n : Int) + 1 - (i : Int))]).run Tryd.prog w = .ok (.slice (some ⟨w.heap.size, 0, none⟩) (n + 1) gc) W1 := fun ty => by
    have hk : ((n : Int) + 1 - (i : Int)) = ((n + 1 - i : Nat) : Int) := by omega
    have hold : (Builtin.firstCells i0.size i (.slice (some ⟨g, 0, none⟩) i cap)).run Tryd.prog w.drew = .ok (cs.take (i * 3)).toArray w.drew := by
      rw [hz1]
      exact run_firstCells_some w.drew 3 i ⟨g, 0, none⟩ i cap (cs.take (i * 3)) ho (fun j u hj => by
        have hc := hB.cell j
        rw [Addr.add_lit, Nat.zero_add]
        refine hc.trans ?_
        rw [← htk, List.getElem?_take] at hj
        split at hj
        · rw [List.getElem?_take] at hj
          split at hj
          · simpa using hj
          · cases hj
        · cases hj)
    have := Lib.run_append_grow_zeros (P := Tryd.prog) w 22 3 ty 30 i0 ez .i64 .i64 Tryd.underlying22 Tryd.underlying3 hi hz0 (some ⟨g, 0, none⟩) i cap (cs.take (i * 3)) hold (n + 1 - i) (by omega) (by rw [hz1]; decide) (by omega) (by omega) (by rw [hz2]; omega) (by rw [hz2]; exact growslice_fits (by omega) (by omega))
    rw [hk, this, hW1, hgc]
    rw [show i + (n + 1 - i) = n + 1 by omega, ← hgc]
    have e : (cs.take (i * 3)).toArray ++ Builtin.zeroCells ez.cells (n + 1 - i) ++ Builtin.zeroCells ez.cells (gc - (n + 1)) = cu.toArray := by
      rw [hcu, hZ, hrest]
      simp
    rw [e]
  have HB1 : Bk W1 w.heap.size 30 cu.toArray := by rw [hW1]; exact heap_alloc_new w.drew _
  have HV1 : Bk W1 vb 30 #[c0, c1, c2] := by rw [hW1]; exact Bk.alloc (w := w.drew) hV _
  have HG1 : Bk W1 g 30 cur.toArray := by rw [hW1]; exact Bk.alloc (w := w.drew) hB _
  have hgl := hB.lt
  obtain ⟨h, hh⟩ : ∃ h, h = w.heap.size := ⟨_, rfl⟩
  rw [← hh] at HB1 HR0 hgl
  have HR1 : ∀ ty dc, (Builtin.copy_ #[22, 22] ty #[.slice (some ⟨h, i * 3, none⟩) (n + 1 - i) dc, .slice (some ⟨vb, 0, none⟩) 1 1]).run Tryd.prog W1 =
      .ok (goInt (Nat.min 1 (n + 1 - i))) (W1.setRow h (splice cu (i * 3) [c0, c1, c2]).toArray) := fun ty dc =>
    run_copy_sp W1 _ ty _ i0 Tryd.underlying22 hi hz1 h (i * 3) cu HB1 _ _ _ dc _ 1 [c0, c1, c2] (by rw [show Nat.min 1 (n + 1 - i) = 1 by simp only [Nat.min_def]; split <;> omega]; rfl)
      (fun _ => ⟨rfl, _, rfl, fun j u hj => by
        have hc := HV1.cell j
        rw [Addr.add_lit, Nat.zero_add]
        refine hc.trans ?_
        simpa using hj⟩) h1v (by simp; omega)
  obtain ⟨W2, hW2⟩ : ∃ W2, W2 = W1.setRow h (splice cu (i * 3) [c0, c1, c2]).toArray := ⟨_, rfl⟩
  have HB2 : Bk W2 h 30 (splice cu (i * 3) [c0, c1, c2]).toArray := by rw [hW2]; exact setRow_heap W1 h _ _ _ _ HB1
  have HG2 : Bk W2 g 30 cur.toArray := by rw [hW2]; exact (setRow_other W1 h g _ (by omega)).trans HG1
  have HR2 : ∀ ty dc sc, (Builtin.copy_ #[22, 22] ty #[.slice (some ⟨h, (i + 1) * 3, none⟩) (n - i) dc, .slice (some ⟨g, i * 3, none⟩) (n - i) sc]).run Tryd.prog W2.drew =
      .ok (goInt (Nat.min (n - i) (n - i))) (W2.drew.setRow h (splice (splice cu (i * 3) [c0, c1, c2]) ((i + 1) * 3) (cs.drop (i * 3))).toArray) := fun ty dc sc =>
    run_copy_sp W2.drew _ ty _ i0 Tryd.underlying22 hi hz1 h ((i + 1) * 3) (splice cu (i * 3) [c0, c1, c2]) HB2 _ _ _ dc _ sc (cs.drop (i * 3)) (by rw [hd]; congr 1; simp only [Nat.min_def]; split <;> omega)
      (fun _ => ⟨rfl, _, rfl, fun j u hj => by
        have hc := HG2.cell (i * 3 + j)
        rw [Addr.add_lit]
        refine hc.trans ?_
        rw [← htk, List.getElem?_drop, List.getElem?_take] at hj
        split at hj
        · simpa using hj
        · cases hj⟩) (fun u hu => h1 u (List.mem_of_mem_drop hu)) (by rw [length_splice _ _ _ (by simp; omega)]; omega)
  have HFin : (W2.drew.setRow h (splice (splice cu (i * 3) [c0, c1, c2]) ((i + 1) * 3) (cs.drop (i * 3))).toArray).ownsRow base 30 3 (.slice (some ⟨h, 0, none⟩) (n + 1) gc) (n + 1) (cs.take (i * 3) ++ ([c0, c1, c2] ++ cs.drop (i * 3))) := by
    refine ⟨by simp [hcsl]; omega, .inr ⟨h, gc, _, rfl, by omega, setRow_heap W2.drew h _ _ _ _ HB2, hge, by unfold maxLen; omega, ?_, ?_⟩⟩
    · rw [List.size_toArray, length_splice _ _ _ (by rw [length_splice _ _ _ (by simp; omega)]; omega), length_splice _ _ _ (by simp; omega), hcul]
    · rw [hcu]
      exact ins_row2 (by omega) ho hZl rfl hd
  have HBel : Below base w (W2.drew.setRow h (splice (splice cu (i * 3) [c0, c1, c2]) ((i + 1) * 3) (cs.drop (i * 3))).toArray) := by
    rw [hW2, hW1]
    exact below_setRow (below_setRow (((Below.refl base w).drew.alloc hbase _)) (by omega) _).drew (by omega) _
  have HGr : w.grownBy (W2.drew.setRow h (splice (splice cu (i * 3) [c0, c1, c2]) ((i + 1) * 3) (cs.drop (i * 3))).toArray) (some g) := by
    rw [hW2, hW1]
    exact grown_setRow (grown_drew (grown_setRow (grown_alloc (grown_drew (grown_refl w _)) _) (.inr (by omega)) _)) (.inr (by omega)) _
  have KG := Lib.hid HGr
  have F := Lib.hid HFin
  have G := Lib.hid HBel
  have WW1 := Lib.hid hW1
  have WW2 := Lib.hid hW2
  have R0 := Lib.hid HR0
  have R1 := Lib.hid HR1
  have R2 := Lib.hid HR2
  have b0 : ¬ ((i : Int) = (n : Int)) := by omega
  have b1 : (i : Int) ≤ (n : Int) := by omega
  have b3 : (0 : Int) ≤ (i : Int) := by omega
  have b4 : (0 : Int) ≤ (i : Int) + 1 := by omega
  have b5 : (i : Int) + 1 ≤ (n : Int) + 1 := by omega
  have b6 : ¬ (gc = i + 1) := by omega
  have b7 : ¬ (gc = i) := by omega
  have b7' : ¬ (cap = i) := by omega
  have b8 : ((i : Int) + 1).toNat = i + 1 := by omega
  have b9 : (cap : Int) < (n : Int) + 1 := by omega
  have b10 : (i : Int) ≤ (n : Int) + 1 := by omega
  have b11 : IntKind.i64.wrap ((i : Int) + 1) = (i : Int) + 1 := by rw [IntKind.wrap_i64]; omega
  have b12 : i ≤ cap := by omega
  clear HFin HBel HGr hW1 hW2 HR0 HR1 HR2 HB1 HV1 HG1 HB2 HG2 hcsl hd ho hB htk h1 hcl hi hz0 hz1 hz2 h1v hV hcu hcul hZ hZl hrest hrl hgc hh
  go_enter Tryd.func76, Tryd.ntmps76
  go_wp2_with (first
    | ((refine list_append_run rfl (.tmp 34) (.tmp 39) 22 3 rfl (.slice (some ⟨g, 0, none⟩) i cap) (.int .i64 ((n : Int) + 1 - (i : Int))) (by rfl) (by rfl) (R0.out _) ?_); intro w3 H3; obtain rfl := H3.out)
    | ((refine list_copy_run rfl (.tmp 43) (.tmp 44) 22 22 rfl (.slice (some ⟨h, i * 3, none⟩) (n + 1 - i) (gc - i)) (.slice (some ⟨vb, 0, none⟩) 1 1) (by rfl) (by rfl) (R1.out _ _) ?_); intro w4 H4; obtain rfl := H4.out.trans WW2.out.symm))
  go_region_law ((refine step_copy_run rfl (.tmp 50) (.tmp 53) 22 22 rfl (.slice (some ⟨h, (i + 1) * 3, none⟩) (n - i) (gc - (i + 1))) (.slice (some ⟨g, i * 3, none⟩) (n - i) (cap - i)) (by simp [Act.eval, Act.put]) (by simp [Act.eval, Act.put]) (R2.out _ _ _) ?_; intro w5 H5))
  go_wp2
  go_ret
  exact ⟨_, rfl, by rw [H5.out]; exact F.out, by rw [H5.out]; exact G.out, by rw [H5.out]; exact KG.out⟩

/-- slices.Insert(s, i, e): all roads. -/
theorem insertE_any (base n i vb : Nat) (cs : List Value) (c0 c1 c2 v : Value) (w : World) (h : w.ownsRow base 30 3 v n cs) (hbase : base ≤ w.heap.size) (hin : i ≤ n) (hn : n ≤ 1048576) (h1 : ∀ u ∈ cs, u.oneCell' = true) (h1v : ∀ u ∈ [c0, c1, c2], u.oneCell' = true)
    (hV : Bk w vb 30 #[c0, c1, c2]) (hne : v.ownBlock ≠ some vb) :
    Calls Tryd.prog 76 #[v, .int .i64 i, .slice (some ⟨vb, 0, none⟩) 1 1] w (InsPost v.ownBlock base n i cs [c0, c1, c2] w) := by
  rcases Nat.lt_or_ge i n with hlt | hge
  · obtain ⟨g, cap, cur, rfl, hbg, hB, hnc, hcm, hcl, htk⟩ := own_some h (by omega)
    unfold maxLen at hcm
    rcases Nat.lt_or_ge cap (n + 1) with hfull | hroom
    · exact insert_grow base n i g cap vb cs cur c0 c1 c2 w hbase hB hcl htk hcm hlt hnc hfull hn h1 h1v hV
    · exact insert_shift base n i g cap vb cs cur c0 c1 c2 w hbg hB hcl htk hcm hlt hroom hn h1 h1v hV (fun e => hne (by simp [Value.ownBlock, e]))
  · obtain rfl : i = n := by omega
    exact insert_end base i vb cs c0 c1 c2 v w h hbase hn h1v hV
end Go.Proofs.YtpfmenepgejgdaaDoor
