/-
  tree.copied: a tree with bytes of its own. Own work.
-/
import Derived.Test.YtpfmenepgejgdaaDoorRowQ
import Derived.Test.YtpfmenepgejgdaaDoorFindT
import Derived.Deep.RegionLaw
import Derived.Deep.RegionHeld3
namespace Go.Proofs.YtpfmenepgejgdaaDoor
open Go.RowKit

/-- A slice of entries in a row of the call's own. -/
def RowE (w : World) (base : Nat) (u : Value) (es : List Ent) : Prop := ∃ cs, OwnQ NB w base 30 3 u es.length cs ∧ EC w es cs
theorem RowE.ents {w : World} {base : Nat} {u : Value} {es : List Ent} (h : RowE w base u es) : Ents w u es := by
  obtain ⟨cs, h1, h2⟩ := h
  exact ents_of_own h1.own h2
theorem row3q (p : ByteArray) (d : Bool) (A : Option Addr) (n c : Nat) : ∀ u ∈ [Value.string p, .bool d, .slice A n c], u.oneCell' = true ∧ NB u := by
  intro u hu
  simp only [List.mem_cons, List.mem_nil_iff, or_false] at hu
  rcases hu with rfl | rfl | rfl <;> exact ⟨rfl, fun _ => by simp⟩
theorem ez_q : ∀ u ∈ ez.cells, NB u := by
  intro u hu
  have : u ∈ [Value.string ⟨#[]⟩, .bool false, .slice none 0 0] := by simpa [ez, Value.cells] using hu
  exact (row3q _ _ _ _ _ u this).2
theorem RowE.below {w w1 : World} {base : Nat} {u : Value} {es : List Ent} (h : RowE w base u es) (hb : Below w.heap.size w w1) : RowE w1 base u es := by
  obtain ⟨cs, h1, h2⟩ := h
  exact ⟨cs, h1.below hb, h2.below hb⟩
theorem RowE.ge {w : World} {base : Nat} {u : Value} {es : List Ent} (h : RowE w base u es) : ∀ g, u.ownBlock = some g → base ≤ g := by
  obtain ⟨cs, h1, _⟩ := h
  exact fun g hg => (h1.lt g hg).1
theorem RowE.ne {w : World} {base : Nat} {u : Value} {es : List Ent} (h : RowE w base u es) : u.ownBlock ≠ some w.heap.size := by
  obtain ⟨cs, h1, _⟩ := h
  exact fun hg => absurd (h1.lt _ hg).2 (Nat.lt_irrefl _)
theorem ents_form2 {w : World} {v : Value} {es : List Ent} (h : Ents w v es) : ∃ A c, v = .slice A es.length c := by
  obtain ⟨A, c, rfl, _⟩ := h
  exact ⟨A, c, rfl⟩
def CopPost (es : List Ent) (w : World) (x : Ending) (w' : World) : Prop := ∃ u, x = .returned (.agg #[u]) ∧ RowE w' w.heap.size u es ∧ Below w.heap.size w w'

theorem EC.map {w w1 : World} (hm : ∀ u bs, Byt w u bs → Byt w1 u bs) : ∀ {es : List Ent} {cs : List Value}, EC w es cs → EC w1 es cs
  | [], _, h => h
  | e :: r, _, h => by
    obtain ⟨u, t, rfl, hu, h⟩ := h
    exact ⟨u, t, rfl, hm _ _ hu, EC.map hm h⟩
theorem copied_step {w wr w1 w4 : World} {es : List Ent} {k : Nat} {x : Ent} {cs : List Value} {Au A2 : Option Addr} {cu d2 g4 c4 : Nat} (hb : Below w.heap.size w wr) (hsz : w.heap.size + 2 < wr.heap.size)
    (hB1 : Bk wr (w.heap.size + 1) 25 #[.slice none 0 0]) (hbw : Below wr.heap.size wr w1) (K4 : Bk w4 (w.heap.size + 1 + 1) 25 #[.slice Au k cu])
    (HO : OwnQ NB wr (w.heap.size + 3) 30 3 (.slice Au k cu) k cs) (HCS : EC wr (es.take k) cs) (HX : es[k]? = some x) (HU : Byt w1 (.slice A2 x.b.length d2) x.b)
    (hown4 : OwnQ NB w4 (w.heap.size + 3) 30 3 (.slice (some ⟨g4, 0, none⟩) (k + 1) c4) (k + 1) (cs ++ [.string x.path, .bool x.dir, .slice A2 x.b.length d2]))
    (hgrow4 : (w1.alloc (.cells #[.string x.path, .bool x.dir, .slice A2 x.b.length d2] 30)).grownBy w4 (Value.slice Au k cu).ownBlock) :
    k + 1 ≤ es.length ∧ Below w.heap.size w (w4.setCell ⟨w.heap.size + 1 + 1, 0, none⟩ (.slice (some ⟨g4, 0, none⟩) (k + 1) c4)) ∧ w.heap.size + 2 < (w4.setCell ⟨w.heap.size + 1 + 1, 0, none⟩ (.slice (some ⟨g4, 0, none⟩) (k + 1) c4)).heap.size ∧
    Bk (w4.setCell ⟨w.heap.size + 1 + 1, 0, none⟩ (.slice (some ⟨g4, 0, none⟩) (k + 1) c4)) (w.heap.size + 1) 25 #[.slice none 0 0] ∧
    ∃ u, Bk (w4.setCell ⟨w.heap.size + 1 + 1, 0, none⟩ (.slice (some ⟨g4, 0, none⟩) (k + 1) c4)) (w.heap.size + 1 + 1) 25 #[u] ∧ u = .slice (some ⟨g4, 0, none⟩) (k + 1) c4 ∧ RowE (w4.setCell ⟨w.heap.size + 1 + 1, 0, none⟩ (.slice (some ⟨g4, 0, none⟩) (k + 1) c4)) (w.heap.size + 3) u (es.take (k + 1)) := by
  have hlk : k < es.length := (List.getElem?_eq_some_iff.1 HX).1
  have h1 := hbw.alloc hbw.size (.cells #[.string x.path, .bool x.dir, .slice A2 x.b.length d2] 30)
  have hrow : ∀ g, (Value.slice Au k cu).ownBlock = some g → w.heap.size + 3 ≤ g := fun g hg => (HO.lt g hg).1
  have hs1 := h1.size
  have h4 : Below w.heap.size w w4 := (hb.trans (h1.mono hb.size)).grown hgrow4 (by omega) (fun g hg => by have := hrow g hg; omega)
  have hs4 := hgrow4.size
  have hg4 := (hown4.lt g4 rfl).1
  have hBQ : BlkQ NB (w1.alloc (.cells #[.string x.path, .bool x.dir, .slice A2 x.b.length d2] 30)) (Value.slice Au k cu).ownBlock := (HO.below h1).blk
  have htk : es.take (k + 1) = es.take k ++ [x] := by rw [List.take_add_one, HX]; rfl
  refine ⟨hlk, h4.setCell (by simp; omega) _, by simp [World.setCell]; omega, ?_, _, K4.set 0 _, rfl, cs ++ [.string x.path, .bool x.dir, .slice A2 x.b.length d2], ?_, ?_⟩
  · exact (((hB1.after h1).grown hgrow4 (fun e => by have := hrow _ e.symm; omega))).far (by simp) _
  · rw [List.length_take_of_le hlk]
    exact hown4.other (by simp [Value.ownBlock]; omega) _
  · rw [htk]
    refine EC.map (fun u bs h => h.set K4 (by simp) 0 _) (EC.app ((HCS.below h1).grownQ hgrow4 hBQ) (EC.one ((HU.below ((Below.refl _ w1).alloc (Nat.le_refl _) _)).grownQ hgrow4 hBQ)))

set_option maxHeartbeats 1000000 in
theorem copied_any (es : List Ent) (v : Value) (w : World) (h : TreeV w v es) (hn : es.length ≤ 1048576) (hc : cnt es ≤ 1048576) :
    Calls Tryd.prog 55 #[v] w (CopPost es w) := by
  obtain ⟨u, rfl, A, c, rfl, hlc, _, hcell⟩ := h
  have HC := Lib.hid hcell
  have HN := Lib.hid hc
  clear hcell hc
  obtain ⟨i0, hi, hz0, hz1, hz2⟩ := info_parts info30
  have B0 := (((Below.refl w.heap.size w).alloc (Nat.le_refl _) (.cells #[.slice A es.length c] 25)).alloc (by simp) (.cells #[.slice none 0 0] 25)).alloc (by simp; omega) (.cells #[.slice none 0 0] 25)
  go_enter Tryd.func55, Tryd.ntmps55
  go_wp2_with fail
  go_loopw [9] (fun i wr => ∃ k : Nat, k ≤ es.length ∧ i = .int .i64 k ∧ Below w.heap.size w wr ∧ w.heap.size + 2 < wr.heap.size ∧ Bk wr (w.heap.size + 1) 25 #[.slice none 0 0] ∧ ∃ u, Bk wr (w.heap.size + 1 + 1) 25 #[u] ∧ RowE wr (w.heap.size + 3) u (es.take k)) (fun i _ => es.length - (intOf i).toNat)
  case atStart =>
    refine ⟨0, Nat.zero_le _, rfl, B0, by simp, (Bk.new1 w _ _ _).alloc _, _, Bk.new2 w _ _ _ _, [], OwnQ.nil _ _ _ _ _, rfl⟩
  case round =>
    obtain ⟨k, hk, rfl, hb, hsz, hB1, u, hB2, cs, hown, hcs⟩ := hrel
    by_cases hlt : k < es.length
    · obtain ⟨x, hkx⟩ : ∃ x, es[k]? = some x := ⟨_, List.getElem?_eq_getElem hlt⟩
      obtain ⟨b, o, rfl, hq⟩ := HC.out (by omega)
      obtain ⟨ux, c0, c1, c2, hu⟩ := (hq k x hkx).below hb
      have hxb : x.b.length ≤ 1048576 := by have := cnt_mem (List.mem_of_getElem? hkx); have := HN.out; omega
      have C := Lib.hid (fun w1 (h : Below wr.heap.size wr w1) => own_any x (.agg #[.string x.path, .bool x.dir, ux]) w1 ⟨ux, rfl, hu.below h⟩ hxb)
      obtain ⟨A1, d1, rfl, _⟩ := hu
      have hl : (es.take k).length = k := List.length_take_of_le (by omega)
      rw [hl] at hown
      have HO := Lib.hid hown
      have HCS := Lib.hid hcs
      have HX := Lib.hid hkx
      obtain ⟨Au, cu, rfl⟩ := hown.form
      have K2 := hB2.alloc (.cells #[.string x.path, .bool x.dir, .slice A1 x.b.length d1] 30)
      have k2 := K2.cell
      clear hown hcs hkx hq hl
      go_wp2_with fail
      have hbr := ((Below.refl wr.heap.size wr).alloc (Nat.le_refl _) (.cells #[.string x.path, .bool x.dir, .slice A1 x.b.length d1] 30)).drew
      go_region_law (first
        | (go_simp; go_at_call 42; (with_reducible refine (C.out _ hbr).mono ?_); rintro y w1 ⟨v', rfl, ⟨u', rfl, hu'⟩, hb1, -⟩; have HU' := Lib.hid hu'; obtain ⟨A2, d2, rfl, _⟩ := hu'; have hbw := hbr.trans (hb1.mono hbr.size); have K3 := (K2.drewN 1).after hb1; have k3 := K3.cell; have k3a := (K3.alloc (.cells #[.string x.path, .bool x.dir, .slice A2 x.b.length d2] 30)).cell; have hs1 := hbw.size)
        | ((refine step_append_q _ rfl (.tmp 14) (.tmp 17) 22 rfl NB (w.heap.size + 3) 30 i0 ez 3 48 Tryd.underlying22 hi hz0 hz1 hz2 rfl (by decide) ez_q _ k cs (by simp [Act.eval, Act.put]) (HO.out.below (hbw.alloc hbw.size _)) ⟨w1.heap.size, 0, none⟩ 1 1 [.string x.path, .bool x.dir, .slice A2 x.b.length d2] (by simp [Act.eval, Act.put]) rfl (World.news_of_block (heap_alloc_new w1 _)) (row3q _ _ _ _ _) (by omega) (by unfold maxLen; omega) (by omega) (by simp; omega) ?_); intro g4 c4 w4 hown4 hgrow4 hat4 hlt4; have K4 := (K3.alloc (.cells #[.string x.path, .bool x.dir, .slice A2 x.b.length d2] 30)).grown hgrow4 (by intro e; have := (HO.out.lt _ e.symm).1; omega); have k4 := K4.cell; have f4 := K4.free; clear k3 k3a)
        | fail)
      all_goals
        have ST := Lib.hid (copied_step hb hsz hB1 hbw K4 HO.out HCS.out HX.out HU'.out hown4 hgrow4)
        clear hown4 hgrow4 hat4 HO HCS HU' hb1 hbr hbw K3 K2 hB2 hB1
        go_wp2_with fail
        go_roundw
        case rel =>
          obtain ⟨s1, s2, s3, s4, u, s5, rfl, s6⟩ := ST.out
          exact ⟨k + 1, s1, by go_num, s2, s3, s4, _, s5, s6⟩
        case measure => simp [intOf]; omega
    · obtain rfl : es.length = k := by omega
      have hu := hown.form
      obtain ⟨Au, cu, rfl⟩ := hu
      have k1 := hB1.cell
      have f1 := hB1.free
      have k2 := hB2.cell
      rw [List.take_length] at hown hcs
      have HO := Lib.hid hown
      have HCS := Lib.hid hcs
      have HL := hown.lt
      clear hown hcs
      go_wp2_with fail
      refine bodyPost_ret (v := .agg #[.slice Au es.length cu]) (by simp [results, Tryd.results55, go_sem, k1, k2]) rfl ?_
      refine ⟨_, rfl, ⟨cs, ?_, EC.map (fun u bs h => h.set hB1 (by simp) 0 _) HCS.out⟩, hb.setCell (by simp) _⟩
      have := HO.out.other (p := ⟨w.heap.size + 1, 0, none⟩) (fun e => by have := (HL _ e).1; simp at this) (.slice Au es.length cu)
      exact ⟨this.1, this.2.imp id (fun ⟨g, cap, cur, h1, h2, h3⟩ => ⟨g, cap, cur, h1, by omega, h3⟩)⟩
end Go.Proofs.YtpfmenepgejgdaaDoor
