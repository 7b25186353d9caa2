/-
  slices.Insert AT ROWS OF ENTRIES, one entry put in: the library's own text walked. Own work.
-/
import Derived.Test.YtpfmenepgejgdaaDoorSlices
namespace Go.Proofs.YtpfmenepgejgdaaDoor
open Go.RowKit

def InsPost (row : Option Nat) (base n i : Nat) (cs news : List Value) (w : World) (x : Ending) (w' : World) : Prop :=
  ∃ v', x = .returned v' ∧ w'.ownsRow base 30 3 v' (n + 1) (cs.take (i * 3) ++ (news ++ cs.drop (i * 3))) ∧ Below base w w' ∧ w.grownBy w' row

theorem ins_row {cur cs news : List Value} {n i cap : Nat} (hcl : cur.length = cap * 3) (hnc : n + 1 ≤ cap) (htk : cur.take (n * 3) = cs) (hin : i ≤ n) (hl : news.length = 3) :
    (splice (splice cur ((i + 1) * 3) (cs.drop (i * 3))) (i * 3) news).take ((n + 1) * 3) = cs.take (i * 3) ++ (news ++ cs.drop (i * 3)) := by
  have hcsl : cs.length = n * 3 := by rw [← htk, List.length_take]; omega
  have hd : (cs.drop (i * 3)).length = (n - i) * 3 := by rw [List.length_drop]; omega
  have e1 : cur.take (i * 3) = cs.take (i * 3) := by rw [← htk, List.take_take]; congr 1; omega
  have l1 : (cs.take (i * 3)).length = i * 3 := by rw [List.length_take]; omega
  have e0 : cur.take ((i + 1) * 3) = cs.take (i * 3) ++ (cur.drop (i * 3)).take 3 := by
    rw [← e1, show (i + 1) * 3 = i * 3 + 3 by omega, List.take_add]
  have l3 : ((cur.drop (i * 3)).take 3).length = 3 := by rw [List.length_take, List.length_drop]; omega
  unfold splice
  rw [e0, hl, hd]
  have a1 : (cs.take (i * 3) ++ (cur.drop (i * 3)).take 3 ++ (cs.drop (i * 3) ++ cur.drop ((i + 1) * 3 + (n - i) * 3))).take (i * 3) = cs.take (i * 3) := by
    rw [List.append_assoc]
    exact List.take_left' l1
  have a2 : (cs.take (i * 3) ++ (cur.drop (i * 3)).take 3 ++ (cs.drop (i * 3) ++ cur.drop ((i + 1) * 3 + (n - i) * 3))).drop (i * 3 + 3) = cs.drop (i * 3) ++ cur.drop ((i + 1) * 3 + (n - i) * 3) := by
    have : (cs.take (i * 3) ++ (cur.drop (i * 3)).take 3).length = i * 3 + 3 := by rw [List.length_append, l1, l3]
    rw [← this]
    exact List.drop_left
  rw [a1, a2, ← List.append_assoc, ← List.append_assoc, ← List.append_assoc]
  have l2 : (cs.take (i * 3) ++ news ++ cs.drop (i * 3)).length = (n + 1) * 3 := by rw [List.length_append, List.length_append, l1, hl, hd]; omega
  rw [← l2]
  exact List.take_left

attribute [local go_sem ↓] Go.wp_at_zero Go.wp_at_succ
set_option maxRecDepth 100000 in
set_option maxHeartbeats 4000000 in
/-- There is room, and not at the end: what stands behind is moved. -/
theorem insert_shift (base n i g cap vb : Nat) (cs cur : List Value) (c0 c1 c2 : Value) (w : World) (hbg : base ≤ g) (hB : Bk w g 30 cur.toArray) (hcl : cur.length = cap * 3) (htk : cur.take (n * 3) = cs) (hcm : cap ≤ 9223372036854775807)
    (hin : i < n) (hnc : n + 1 ≤ cap) (hn : n ≤ 1048576) (h1 : ∀ u ∈ cs, u.oneCell' = true) (h1v : ∀ u ∈ [c0, c1, c2], u.oneCell' = true) (hV : Bk w vb 30 #[c0, c1, c2]) (hne : vb ≠ g) :
    Calls Tryd.prog 76 #[.slice (some ⟨g, 0, none⟩) n cap, .int .i64 i, .slice (some ⟨vb, 0, none⟩) 1 1] w (InsPost (some g) base n i cs [c0, c1, c2] w) := by
  obtain ⟨i0, hi, _, hz1, _⟩ := info_parts info30
  have hcsl : cs.length = n * 3 := by rw [← htk, List.length_take]; omega
  have hd : (cs.drop (i * 3)).length = (n - i) * 3 := by rw [List.length_drop]; omega
  have hz30 : ∀ w, (Go.sizeOf 30).run Tryd.prog w = .ok 3 w := fun w => by simp [Go.sizeOf, typeInfo, hi, hz1]
  have hsa : w.shape? vb = some (30, 3) := by have := hV; unfold Bk at this; simp [World.shape?, this]
  have hsb : w.shape? g = some (30, cap * 3) := by have := hB; unfold Bk at this; simp [World.shape?, this, hcl]
  have hov : ∀ lb cb, (callFunc 87 #[.slice (some ⟨vb, 0, none⟩) 1 1, .slice (some ⟨g, (i + 1) * 3, none⟩) lb cb]).run Tryd.prog w = .ok (.value (.bool false)) w := fun lb cb => by
    rw [run_callFunc_extern Tryd.func87 (by kernel_rfl) (by kernel_rfl) (by kernel_rfl) (e := Extern.SlicesOverlaps.overlaps #[22, 22] #[4]) (by kernel_rfl),
      Lib.run_overlaps_apart w 22 4 30 Tryd.underlying22 3 hz30 ⟨vb, 0, none⟩ ⟨g, (i + 1) * 3, none⟩ 1 1 lb cb hne _ _ 3 (cap * 3) hsa hsb (by omega) (hV.free 0) (hV.free 3)]
    rfl
  have HR1 : ∀ ty dc sc, (Builtin.copy_ #[22, 22] ty #[.slice (some ⟨g, (i + 1) * 3, none⟩) (n - i) dc, .slice (some ⟨g, i * 3, none⟩) (n + 1 - i) sc]).run Tryd.prog w.drew =
      .ok (goInt (Nat.min (n + 1 - i) (n - i))) (w.drew.setRow g (splice cur ((i + 1) * 3) (cs.drop (i * 3))).toArray) := fun ty dc sc =>
    run_copy_sp w.drew _ ty _ i0 Tryd.underlying22 hi hz1 g ((i + 1) * 3) cur hB _ _ _ dc _ sc (cs.drop (i * 3)) (by rw [hd]; congr 1; simp only [Nat.min_def]; split <;> omega)
      (fun _ => ⟨rfl, _, rfl, fun j u hj => by
        have hc := hB.cell (i * 3 + j)
        rw [Addr.add_lit]
        refine hc.trans ?_
        rw [← htk, List.getElem?_drop, List.getElem?_take] at hj
        split at hj
        · simpa using hj
        · cases hj⟩) (fun u hu => h1 u (List.mem_of_mem_drop hu)) (by omega)
  obtain ⟨W1, hW1⟩ : ∃ W1, W1 = w.drew.setRow g (splice cur ((i + 1) * 3) (cs.drop (i * 3))).toArray := ⟨_, rfl⟩
  have HB1 : Bk W1 g 30 (splice cur ((i + 1) * 3) (cs.drop (i * 3))).toArray := by rw [hW1]; exact setRow_heap w.drew g _ _ _ _ hB
  have HV1 : Bk W1 vb 30 #[c0, c1, c2] := by rw [hW1]; exact (setRow_other w.drew g vb _ hne).trans hV
  have HR2 : ∀ ty dc, (Builtin.copy_ #[22, 22] ty #[.slice (some ⟨g, i * 3, none⟩) (n + 1 - i) dc, .slice (some ⟨vb, 0, none⟩) 1 1]).run Tryd.prog W1 =
      .ok (goInt (Nat.min 1 (n + 1 - i))) (W1.setRow g (splice (splice cur ((i + 1) * 3) (cs.drop (i * 3))) (i * 3) [c0, c1, c2]).toArray) := fun ty dc =>
    run_copy_sp W1 _ ty _ i0 Tryd.underlying22 hi hz1 g (i * 3) (splice cur ((i + 1) * 3) (cs.drop (i * 3))) HB1 _ _ _ dc _ 1 [c0, c1, c2] (by rw [show Nat.min 1 (n + 1 - i) = 1 by simp only [Nat.min_def]; split <;> omega]; rfl)
      (fun _ => ⟨rfl, _, rfl, fun j u hj => by
        have hc := HV1.cell j
        rw [Addr.add_lit, Nat.zero_add]
        refine hc.trans ?_
        simpa using hj⟩) h1v (by rw [length_splice _ _ _ (by omega)]; simp; omega)
  have HFin : (W1.setRow g (splice (splice cur ((i + 1) * 3) (cs.drop (i * 3))) (i * 3) [c0, c1, c2]).toArray).ownsRow base 30 3 (.slice (some ⟨g, 0, none⟩) (n + 1) cap) (n + 1) (cs.take (i * 3) ++ ([c0, c1, c2] ++ cs.drop (i * 3))) := by
    refine ⟨by simp [hcsl]; omega, .inr ⟨g, cap, _, rfl, hbg, setRow_heap W1 g _ _ _ _ HB1, hnc, by unfold maxLen; omega, ?_, ?_⟩⟩
    · rw [List.size_toArray, length_splice _ _ _ (by rw [length_splice _ _ _ (by omega)]; simp; omega), length_splice _ _ _ (by omega), hcl]
    · exact ins_row hcl hnc htk (by omega) rfl
  have HBel : Below base w (W1.setRow g (splice (splice cur ((i + 1) * 3) (cs.drop (i * 3))) (i * 3) [c0, c1, c2]).toArray) := by
    rw [hW1]
    exact below_setRow (below_setRow (Below.refl base w).drew hbg _) hbg _
  have HGr : w.grownBy (W1.setRow g (splice (splice cur ((i + 1) * 3) (cs.drop (i * 3))) (i * 3) [c0, c1, c2]).toArray) (some g) := by
    rw [hW1]
    exact grown_setRow (grown_setRow (grown_drew (grown_refl w _)) (.inl rfl) _) (.inl rfl) _
  have KG := Lib.hid HGr
  have F := Lib.hid HFin
  have G := Lib.hid HBel
  have W := Lib.hid hW1
  have R1 := Lib.hid HR1
  have R2 := Lib.hid HR2
  have b0 : ¬ ((i : Int) = (n : Int)) := by omega
  have b1 : (i : Int) ≤ (n : Int) := by omega
  have b3 : (0 : Int) ≤ (i : Int) := by omega
  have b4 : (0 : Int) ≤ (i : Int) + 1 := by omega
  have b5 : (i : Int) + 1 ≤ (n : Int) + 1 := by omega
  have b6 : ¬ (cap = i + 1) := by omega
  have b7 : ¬ (cap = i) := by omega
  have b8 : ((i : Int) + 1).toNat = i + 1 := by omega
  have b9 : (n : Int) + 1 ≤ (cap : Int) := by omega
  have b10 : (i : Int) ≤ (n : Int) + 1 := by omega
  have b11 : IntKind.i64.wrap ((i : Int) + 1) = (i : Int) + 1 := by rw [IntKind.wrap_i64]; omega
  clear HFin HBel HGr hW1 HR1 HR2 HB1 HV1 hcsl hd hB htk h1 hcl hi hz1 h1v hV hsa hsb hz30
  go_enter Tryd.func76, Tryd.ntmps76
  go_wp2_with (simp only [hov])
  go_region_law ((refine step_copy_run rfl (.tmp 73) (.tmp 76) 22 22 rfl (.slice (some ⟨g, (i + 1) * 3, none⟩) (n - i) (cap - (i + 1))) (.slice (some ⟨g, i * 3, none⟩) (n + 1 - i) (cap - i)) (by simp [Act.eval, Act.put]) (by simp [Act.eval, Act.put]) (R1.out _ _ _) ?_; intro w2 H2))
  obtain rfl := H2.out.trans W.out.symm
  clear hov
  go_wp2_with ((refine list_copy_run rfl (.tmp 80) (.tmp 81) 22 22 rfl (.slice (some ⟨g, i * 3, none⟩) (n + 1 - i) (cap - i)) (.slice (some ⟨vb, 0, none⟩) 1 1) (by rfl) (by rfl) (R2.out _ _) ?_); intro w3 H3)
  go_ret
  exact ⟨_, rfl, by rw [H3.out]; exact F.out, by rw [H3.out]; exact G.out, by rw [H3.out]; exact KG.out⟩

set_option maxRecDepth 100000 in
set_option maxHeartbeats 4000000 in
/-- At the end. -/
theorem insert_end (base n vb : Nat) (cs : List Value) (c0 c1 c2 v : Value) (w : World) (h : w.ownsRow base 30 3 v n cs) (hbase : base ≤ w.heap.size) (hn : n ≤ 1048576) (h1v : ∀ u ∈ [c0, c1, c2], u.oneCell' = true) (hV : Bk w vb 30 #[c0, c1, c2]) :
    Calls Tryd.prog 76 #[v, .int .i64 n, .slice (some ⟨vb, 0, none⟩) 1 1] w (InsPost v.ownBlock base n n cs [c0, c1, c2] w) := by
  obtain ⟨i0, hi, hz0, hz1, hz2⟩ := info_parts info30
  have hcsl : cs.length = n * 3 := h.1
  have hnews : ∀ j u, [c0, c1, c2][j]? = some u → w.cell? ((⟨vb, 0, none⟩ : Addr).add j) = some u := fun j u hj => by
    have hc := hV.cell j
    rw [Addr.add_lit, Nat.zero_add]
    refine hc.trans ?_
    simpa using hj
  have HR : ∀ ty, ∃ v' w', (Builtin.append_ #[22, 22] ty #[v, .slice (some ⟨vb, 0, none⟩) 1 1]).run Tryd.prog w = .ok v' w' ∧ w'.ownsRow base 30 3 v' (n + 1) (cs ++ [c0, c1, c2]) ∧ Below base w w' ∧ w.grownBy w' v.ownBlock := fun ty => by
    obtain ⟨v', w', hr, h2, h3, _⟩ := run_append_own (P := Tryd.prog) w base 22 ty 30 i0 ez 3 48 Tryd.underlying22 hi hz0 hz1 hz2 rfl (by decide) v n cs h ⟨vb, 0, none⟩ 1 1 [c0, c1, c2] rfl hnews h1v (by unfold maxLen; omega) (by omega) hbase
    exact ⟨v', w', hr, h2, (Below.refl base w).grown h3 hbase (fun k hk => (h.lt k hk).1), h3⟩
  obtain ⟨v', w', hr, h2, h3, h4⟩ := HR 22
  have KG := Lib.hid h4
  have e1 : cs.take (n * 3) ++ ([c0, c1, c2] ++ cs.drop (n * 3)) = cs ++ [c0, c1, c2] := by
    rw [List.take_of_length_le (by omega), List.drop_of_length_le (by omega)]
    simp
  have F : Hid (w'.ownsRow base 30 3 v' (n + 1) (cs.take (n * 3) ++ ([c0, c1, c2] ++ cs.drop (n * 3)))) := by
    rw [e1]
    exact h2
  have R := Lib.hid hr
  have G := Lib.hid h3
  clear hr h2 h3 h4 HR hnews hi hz0 hz1 hz2 hcsl e1 h1v hV
  rcases h.2 with ⟨rfl, rfl⟩ | ⟨g, cap, cur, rfl, _, _, hnc, hcm, _, _⟩
  · clear h
    go_enter Tryd.func76, Tryd.ntmps76
    go_wp2_with ((refine list_append_run rfl (.tmp 23) (.tmp 24) 22 22 rfl (.slice none 0 0) (.slice (some ⟨vb, 0, none⟩) 1 1) (by rfl) (by rfl) R.out ?_); intro w3 H3)
    go_ret
    exact ⟨_, rfl, by rw [H3.out]; exact F.out, by rw [H3.out]; exact G.out, by rw [H3.out]; exact KG.out⟩
  · clear h
    unfold maxLen at hcm
    have b1 : (n : Int) ≤ (cap : Int) := by omega
    go_enter Tryd.func76, Tryd.ntmps76
    go_wp2_with ((refine list_append_run rfl (.tmp 23) (.tmp 24) 22 22 rfl (.slice (some ⟨g, 0, none⟩) n cap) (.slice (some ⟨vb, 0, none⟩) 1 1) (by rfl) (by rfl) R.out ?_); intro w3 H3)
    all_goals go_ret
    all_goals exact ⟨_, rfl, by rw [H3.out]; exact F.out, by rw [H3.out]; exact G.out, by rw [H3.out]; exact KG.out⟩
end Go.Proofs.YtpfmenepgejgdaaDoor
