/-
  THE PACKAGE disk: Do behind begin. Own work.
-/
import Derived.Test.YtpfmenepgejgdaaDoorDo
import Derived.Test.YtpfmenepgejgdaaDoorMoves
import Derived.Deep.RegionLaw
namespace Go.Proofs.YtpfmenepgejgdaaDoor
open Go.RowKit

theorem row4q (n : Int) (p q : ByteArray) (A : Option Addr) (k c : Nat) : ∀ u ∈ [Value.int .i64 n, .string p, .string q, .slice A k c], u.oneCell' = true ∧ NBB u := by
  intro u hu
  simp only [List.mem_cons, List.mem_nil_iff, or_false] at hu
  rcases hu with rfl | rfl | rfl | rfl <;> exact ⟨rfl, fun _ => by simp, fun _ => by simp⟩
theorem d6T {w4 W : World} {P1 P2 P3 P4 P5 : Prop} (h : P1 ∧ P2 ∧ P3 ∧ P4 ∧ P5 ∧ Below w4.heap.size w4 W) : Below w4.heap.size w4 W := h.2.2.2.2.2
theorem d6N {w4 W w5 : World} {P1 P2 P3 P4 P5 : Prop} (h : P1 ∧ P2 ∧ P3 ∧ P4 ∧ P5 ∧ Below w4.heap.size w4 W) (hb : Below W.heap.size W w5) : Below w4.heap.size w4 w5 := (d6T h).trans (hb.mono (d6T h).size)
theorem d6A {w4 W : World} {P1 P2 P3 P4 P5 : Prop} (h : P1 ∧ P2 ∧ P3 ∧ P4 ∧ P5 ∧ Below w4.heap.size w4 W) (o : Obj) : Below w4.heap.size w4 (W.alloc o) := (d6T h).alloc (d6T h).size o
def cz : Value := .agg #[.int .i64 0, .string ⟨#[]⟩, .string ⟨#[]⟩, .slice none 0 0]
theorem cz_q : ∀ u ∈ cz.cells, NBB u := by
  intro u hu
  have : u ∈ [Value.int .i64 0, .string ⟨#[]⟩, .string ⟨#[]⟩, .slice none 0 0] := by simpa [cz, Value.cells] using hu
  exact (row4q _ _ _ _ _ _ u this).2

/-- The disk behind a change that went. -/
theorem do_end {W9 w1 w4 : World} {base b : Nat} {d : Dsk} {c : Chg} {t : List Ent} {un ul uk : Value} {Aw A2 : Option Addr} {cw d2 g4 c4 : Nat} {cs : List Value}
    (hbb : base ≤ b) (hb9 : base ≤ W9.heap.size) (K9 : Bk W9 b 91 (dcells { d with now := t } un ul (.slice Aw d.waits.length cw) uk)) (hn : Ents W9 un t) (hl : Ents W9 ul d.last)
    (hown : OwnQ NBB W9 base 59 4 (.slice Aw d.waits.length cw) d.waits.length cs) (hcc : CC W9 d.waits cs) (hk : KeepV W9 uk d.keep)
    (hbw : Below W9.heap.size W9 w1) (hu : Byt w1 (.slice A2 c.b.length d2) c.b)
    (hown4 : OwnQ NBB w4 base 59 4 (.slice (some ⟨g4, 0, none⟩) (d.waits.length + 1) c4) (d.waits.length + 1) (cs ++ [.int .i64 c.op, .string c.path, .string c.to_, .slice A2 c.b.length d2]))
    (hgrow : (w1.alloc (.cells #[.int .i64 c.op, .string c.path, .string c.to_, .slice A2 c.b.length d2] 59)).grownBy w4 (Value.slice Aw d.waits.length cw).ownBlock) :
    DiskAt ((w4.setCell ⟨b, 3, none⟩ (.slice (some ⟨g4, 0, none⟩) (d.waits.length + 1) c4)).setCell ⟨b, 5, none⟩ (.int .i64 (d.count + 1))) base b (doneD d c t) ∧
    FrD base b W9 ((w4.setCell ⟨b, 3, none⟩ (.slice (some ⟨g4, 0, none⟩) (d.waits.length + 1) c4)).setCell ⟨b, 5, none⟩ (.int .i64 (d.count + 1))) := by
  have hb1 := hbw.alloc hbw.size (.cells #[.int .i64 c.op, .string c.path, .string c.to_, .slice A2 c.b.length d2] 59)
  have hO1 := hown.below hb1
  have hQ := hO1.blk
  have hR := hO1.row
  have K1 := K9.after hb1
  have K4 := K1.grown hgrow (fun e => by
    obtain ⟨_, cs', hB⟩ := hR b e.symm
    exact type_ne hB K1 (by decide) rfl)
  have hn4 := (hn.below hb1).grownQ hgrow hQ
  have hl4 := (hl.below hb1).grownQ hgrow hQ
  have hY4 : ∀ u bs, Byt W9 u bs → Byt w4 u bs := fun u bs h => (h.below hb1).grownQ hgrow (hQ.mono fun u h => h.1)
  have hu4 : Byt w4 (.slice A2 c.b.length d2) c.b := (hu.below ((Below.refl _ w1).alloc (Nat.le_refl _) _)).grownQ hgrow (hQ.mono fun u h => h.1)
  have hk4 := (hk.below hb1).grown hgrow (fun g e => by
    obtain ⟨_, cs', hB⟩ := hR g e
    exact ⟨_, _, hB, by decide⟩)
  have hgB : w4.grownBy ((w4.setCell ⟨b, 3, none⟩ (.slice (some ⟨g4, 0, none⟩) (d.waits.length + 1) c4)).setCell ⟨b, 5, none⟩ (.int .i64 (d.count + 1))) (some b) := grown_set (grown_cell w4 b 3 _) 5 _
  have hB := disk_blkS K4 hn4.nbs hl4.nbs ⟨fun _ => by simp, fun _ => by simp⟩ hk4.nbs
  have hE : ∀ u es, Ents w4 u es → Ents _ u es := fun u es h => h.grownS hgB hB
  have hY : ∀ u bs, Byt w4 u bs → Byt _ u bs := fun u bs h => h.grownQ hgB (hB.mono fun u h => h.1)
  refine ⟨⟨hbb, un, ul, .slice (some ⟨g4, 0, none⟩) (d.waits.length + 1) c4, uk, (K4.set 3 _).set 5 _, hE _ _ hn4, hE _ _ hl4, ⟨cs ++ [.int .i64 c.op, .string c.path, .string c.to_, .slice A2 c.b.length d2], ?_, ?_⟩, hk4.grown hgB (fun g e => by injection e with e; subst e; exact ⟨_, _, K4, by decide⟩)⟩, ?_⟩
  · show OwnQ _ _ _ _ _ _ (d.waits ++ [c]).length _
    rw [List.length_append, List.length_singleton]
    refine ⟨hown4.1, ?_⟩
    rcases hown4.2 with h | ⟨g, cap, cur, h3, h4, h5, h6⟩
    · exact .inl h
    · exact .inr ⟨g, cap, cur, h3, h4, h5.grown hgB (fun e => by injection e with e; exact type_ne h5 K4 (by decide) e), h6⟩
  · exact CC.map hY (CC.app (CC.map hY4 hcc) (CC.one hu4))
  · exact ((FrD.of_below hb1).trans (FrD.of_row hgrow hR)).trans (FrD.of_grown hgB)

set_option maxRecDepth 100000 in
set_option maxHeartbeats 4000000 in
theorem do_any (base b : Nat) (d d1 : Dsk) (c : Chg) (cv : Value) (m : Int) (w : World) (h : DiskAt w base b d) (hcv : ChgV w cv c) (hbase : base ≤ w.heap.size) (hmb : 0 < base) (hg1 : DGood d1) (hcs : CSmall c) (hm : Mx m w)
    (HB : ∀ W, Below w.heap.size w W → Calls Tryd.prog 61 #[.pointer (some ⟨b, 0, none⟩)] W (BegPost base b d1 W)) :
    Calls Tryd.prog 29 #[.pointer (some ⟨b, 0, none⟩), cv] w (DoPost base b (if d1.off then (15, d1) else doE d1 c) w) := by
  have hbl := h.lt
  have hbb := h.1
  obtain ⟨cu, rfl, hcu⟩ := hcv
  have HBD : Hid (∃ t cs, Bk w b t cs ∧ ∀ u ∈ cs, NB u) := by
    obtain ⟨_, un, ul, uw, uk, h1, h2, h3, h4, h5⟩ := h
    obtain ⟨t, cs, h6, h7⟩ := disk_blkS h1 h2.nbs h3.nbs h4.nbs h5.nbs b rfl
    have : ∃ t cs, Bk w b t cs ∧ ∀ u ∈ cs, NB u := ⟨t, cs, h6, fun u hu => (h7 u hu).1⟩
    exact this
  have HCU := Lib.hid hcu
  obtain ⟨Ac, cc, rfl, _⟩ := hcu
  have B0 := (Below.refl w.heap.size w).alloc (Nat.le_refl _) (.cells #[.int .i64 c.op, .string c.path, .string c.to_, .slice Ac c.b.length cc] 59)
  have KC := Bk.new w 59 #[.int .i64 c.op, .string c.path, .string c.to_, .slice Ac c.b.length cc]
  have HB' := Lib.hid HB
  clear HB h
  cases ho : d1.off with
  | true =>
    have O := Lib.hid ho
    clear ho
    go_enter Tryd.func29, Tryd.ntmps29
    go_wp2_with (go_at_call 61; (with_reducible refine (HB'.out _ B0).mono ?_); rintro x w2 ⟨rfl, hD, hg⟩; rw [O.out])
    go_ret
    exact ⟨rfl, hD, (FrD.of_below B0).trans (FrD.of_grown hg)⟩
  | false =>
    have O := Lib.hid ho
    clear ho
    obtain ⟨r, hr⟩ : ∃ r, r = doneE d1.now c := ⟨_, rfl⟩
    have DE : Hid (doE d1 c = if r.1 = 0 then (if d1.quota < bytesE r.2 ∧ bytesE d1.now < bytesE r.2 then (9, d1) else (0, doneD d1 c r.2)) else (r.1, d1)) := by
      have : doE d1 c = if r.1 = 0 then (if d1.quota < bytesE r.2 ∧ bytesE d1.now < bytesE r.2 then (9, d1) else (0, doneD d1 c r.2)) else (r.1, d1) := by rw [hr]; rfl
      exact this
    have RG : Hid (r.1 = 0 → goodT r.2 = true) := by
      have : r.1 = 0 → goodT r.2 = true := fun h => by rw [hr] at h ⊢; exact done_good h
      exact this
    obtain ⟨g1, g2, g3, g4, g5⟩ := hg1
    have hlen := goodT_len g1
    have hsz := good_sizes g1
    obtain ⟨cs1, cs2, cs3⟩ := hcs
    go_enter Tryd.func29, Tryd.ntmps29
    go_upto_region 3 with (go_at_call 61; (with_reducible refine (HB'.out _ B0).mono ?_); rintro x w2 ⟨rfl, hD, hg⟩; rw [O.out]; have HD := Lib.hid hD; have HG := Lib.hid hg; clear hD hg)
    have hs12 := HG.out.size
    simp only [World.size_alloc] at hs12
    obtain ⟨_, un, ul, uw, uk, hK, hN, hL, hW, hKe⟩ := HD.out
    have KC2 := KC.grown HG.out (fun e => by injection e with e; omega)
    have HCU2 : Hid (Byt w2 (.slice Ac c.b.length cc) c.b) := (HCU.out.below ((Below.refl _ w).alloc (Nat.le_refl _) _)).grownQ HG.out (fun g e => by
      injection e with e
      subst e
      obtain ⟨t, cs, h6, h7⟩ := HBD.out
      exact ⟨t, cs, h6.alloc _, h7⟩)
    have hm2 : Mx m w2 := ((((FrD.of_below B0).trans (FrD.of_grown HG.out) : FrD base b w w2).below hbb hbase).cell (p := ⟨0, 0, none⟩) hmb).trans hm
    have CD := Lib.hid (fun W (hb : Below w2.heap.size w2 W) => done_any d1.now c (.agg #[un]) (.agg #[.int .i64 c.op, .string c.path, .string c.to_, .slice Ac c.b.length cc]) m W ⟨un, rfl, hN.below hb⟩ ⟨_, rfl, HCU2.out.below hb⟩ (by omega) (by omega) hsz cs1 cs2 cs3 (hm2.below hb))
    rw [← hr] at CD
    clear hr
    obtain ⟨An, cn, rfl⟩ := ents_form2 hN
    have q1 := hK.cell 1
    have q20 := KC2.cell 0
    have q21 := KC2.cell 1
    have q22 := KC2.cell 2
    have q23 := KC2.cell 3
    simp only [dcells, List.getElem?_toArray, List.getElem?_cons_zero, List.getElem?_cons_succ] at q1 q20 q21 q22 q23
    have HDE := Lib.hid hN
    have HKD := Lib.hid hK
    have HKC := Lib.hid KC2
    clear hN hK KC2
    go_cut [5, 6] (fun s5 s6 wx => s6 = .int .i64 r.1 ∧ Below w2.heap.size w2 wx ∧ ∃ g u, s5 = .pointer (some ⟨g, 0, none⟩) ∧ w2.heap.size ≤ g ∧ Bk wx g 25 #[u] ∧ TreeV wx (.agg #[u]) r.2)
    case first =>
      go_region_held3 (fun w' => w'.cell? ⟨b, 1, none⟩ = some (.slice An d1.now.length cn) ∧ w'.cell? ⟨w.heap.size, 0, none⟩ = some (.int .i64 c.op) ∧ w'.cell? ⟨w.heap.size, 1, none⟩ = some (.string c.path) ∧ w'.cell? ⟨w.heap.size, 2, none⟩ = some (.string c.to_) ∧ w'.cell? ⟨w.heap.size, 3, none⟩ = some (.slice Ac c.b.length cc) ∧ Below w2.heap.size w2 w')
        (refine ⟨cell_below (w := w2) ?_ q1, cell_below (w := w2) ?_ q20, cell_below (w := w2) ?_ q21, cell_below (w := w2) ?_ q22, cell_below (w := w2) ?_ q23, ?_⟩ <;> first | assumption | exact (Below.refl _ w2).drew | exact d6A (by assumption) _ | exact Below.alloc (by assumption) (by omega) _ | exact Below.setCell (by assumption) (by first | exact Nat.le_refl _ | (simp <;> omega)) _)
        (first
          | (go_at_call 62; (with_reducible refine (CD.out _ (d6T (by assumption))).mono ?_); rintro x w3 ⟨v, rfl, ht, h⟩; have hb3 := d6N (w4 := w2) (by assumption) h; have T3 := Lib.hid ht; obtain ⟨A3, c3, rfl⟩ := tpost_form ht; clear ht; have hs3 := hb3.size; (try (have KX : Bk w3 w2.heap.size 25 #[.slice none 0 0] := ((Bk.new w2 _ _).drewN 1).after h; have kx := KX.cell; have fx := KX.free)); clear h)
          | fail)
      all_goals
        go_wp2_with fail
        go_meet
        first
          | exact ⟨rfl, Below.alloc hb3 hs3 _, _, _, rfl, hs3, Bk.new _ _ _, T3.out.below ((Below.refl _ _).alloc (Nat.le_refl _) _)⟩
          | exact ⟨rfl, Below.setCell hb3 (by first | exact Nat.le_refl _ | (simp <;> omega)) _, _, _, rfl, Nat.le_refl _, KX.set 0 _, T3.out.set1 KX _⟩
    obtain ⟨rfl, hb3, g, u, rfl, hgg, hKg, hTg⟩ := hcut
    clear q1 q20 q21 q22 q23
    obtain ⟨A3, c3, hv3⟩ := tpost_form hTg
    injection hv3 with hv3
    injection hv3 with hv3
    injection hv3 with hv3 _
    subst hv3
    by_cases he : r.1 = 0
    · have hgt := RG.out he
      have hsz2 := good_sizes hgt
      have hlen2 := goodT_len hgt
      have hm3 := hm2.below hb3
      have DB1 : Hid (∀ W, Below wc.heap.size wc W → Calls Tryd.prog 10 #[.agg #[.slice A3 r.2.length c3]] W fun x w' => x = .returned (.int .i64 (bytesE r.2)) ∧ Below W.heap.size W w') := Lib.hid (fun W hb => treeBytes_any r.2 _ m W (hTg.below hb) (by omega) (by omega) hsz2 (hm3.below hb))
      have DB2 : Hid (∀ W, Below wc.heap.size wc W → Calls Tryd.prog 10 #[.agg #[.slice An d1.now.length cn]] W fun x w' => x = .returned (.int .i64 (bytesE d1.now)) ∧ Below W.heap.size W w') := Lib.hid (fun W hb => treeBytes_any d1.now _ m W ⟨_, rfl, HDE.out.below (hb3.trans (hb.mono hb3.size))⟩ (by omega) (by omega) hsz (hm3.below hb))
      have hD3 := HD.out
      obtain ⟨n1, hn1⟩ : ∃ n, n = bytesE r.2 := ⟨_, rfl⟩
      obtain ⟨n0, hn0⟩ : ∃ n, n = bytesE d1.now := ⟨_, rfl⟩
      rw [← hn1] at DB1
      rw [← hn0] at DB2
      have DE2 : Hid (doE d1 c = if d1.quota < n1 ∧ n0 < n1 then (9, d1) else (0, doneD d1 c r.2)) := by
        have : doE d1 c = if d1.quota < n1 ∧ n0 < n1 then (9, d1) else (0, doneD d1 c r.2) := by rw [DE.out, if_pos he, hn1, hn0]
        exact this
      have KD := HKD.out.after hb3
      have kd := KD.cell
      clear hn1 hn0 hsz2 hsz hm3 hD3
      simp only [dcells] at kd
      have kg := hKg.cell
      by_cases full : d1.quota < n1 ∧ n0 < n1
      · obtain ⟨f1, f2⟩ := full
        go_wp2_with (first
          | (go_at_call 10; (with_reducible refine (DB1.out _ (Below.refl _ _)).mono ?_); rintro x w4 ⟨rfl, h4⟩; clear kd; have kd := (KD.after h4).cell; simp only [dcells] at kd)
          | (go_at_call 10; (with_reducible refine (DB2.out _ h4).mono ?_); rintro x w5 ⟨rfl, h5⟩; have h45 := h4.trans (h5.mono h4.size))
          | fail)
        go_ret
        show DoPost _ _ _ _ _ _
        rw [DE2.out, if_pos ⟨f1, f2⟩]
        exact ⟨rfl, HD.out.below (hb3.trans (h45.mono hb3.size)), ((FrD.of_below B0).trans (FrD.of_grown HG.out)).trans (FrD.of_below (hb3.trans (h45.mono hb3.size)))⟩
      · by_cases f1 : d1.quota < n1
        · have f2 : ¬ n0 < n1 := fun f2 => full ⟨f1, f2⟩
          clear full
          go_upto_region 10 with (first
            | (go_at_call 10; (with_reducible refine (DB1.out _ (Below.refl _ _)).mono ?_); rintro x wd ⟨rfl, hbd⟩; clear kd kg; have KD1 := KD.after hbd; have kd := KD1.cell; simp only [dcells] at kd; have fd := KD1.free; have kg := (hKg.after hbd).cell)
            | (go_at_call 10; (with_reducible refine (DB2.out _ hbd).mono ?_); rintro x wd ⟨rfl, h5⟩; replace hbd := hbd.trans (h5.mono hbd.size); clear kd kg h5; replace KD1 := KD.after hbd; have kd := KD1.cell; simp only [dcells] at kd; replace fd := KD1.free; have kg := (hKg.after hbd).cell)
            | fail)
          obtain ⟨W9, hW9⟩ : ∃ W, W = wd.setCell ⟨b, 1, none⟩ (.slice A3 r.2.length c3) := ⟨_, rfl⟩
          have hg9 := grown_cell wd b 1 (.slice A3 r.2.length c3)
          have K9 : Bk (wd.setCell ⟨b, 1, none⟩ (.slice A3 r.2.length c3)) b 91 (dcells { d1 with now := r.2 } (.slice A3 r.2.length c3) ul uw uk) := KD1.set 1 _
          have hbwd := hb3.trans (hbd.mono hb3.size)
          have KC9 := (HKC.out.after hbwd).far (p := ⟨b, 1, none⟩) (by simp; omega) (.slice A3 r.2.length c3)
          rw [← hW9] at hg9 K9 KC9 ⊢
          clear hW9
          obtain ⟨e1, e2, e3, e4, hE9, hY9⟩ := disk_store KD1 (HDE.out.below hbwd) (hL.below hbwd) (hW.below hbwd) (hKe.below hbwd) hg9
          have T9 := hE9 _ _ (hTg.below hbd).ents
          have C := Lib.hid (fun W (hb : Below W9.heap.size W9 W) => cown_any c (.agg #[.int .i64 c.op, .string c.path, .string c.to_, .slice Ac c.b.length cc]) W ⟨_, rfl, (hY9 _ _ (HCU2.out.below hbwd)).below hb⟩ (by omega))
          obtain ⟨cs, hown, hcc⟩ := e3
          obtain ⟨Aw, cw, rfl⟩ := hown.form
          have hs9 : base ≤ W9.heap.size := by
            have := hg9.size
            have := hbwd.size
            omega
          have HO := Lib.hid hown
          have H9 := Lib.hid (And.intro T9 (And.intro e2 (And.intro hcc e4)))
          have FR9 := Lib.hid ((((FrD.of_below B0).trans (FrD.of_grown HG.out) : FrD base b w w2).trans (FrD.of_below hbwd)).trans (FrD.of_grown hg9))
          have k9 := K9.cell
          have kc := KC9.cell
          simp only [dcells] at k9
          clear hown hcc T9 e1 e2 e4 hE9 hY9 kd fd kg hg9
          have hbr := (Below.refl W9.heap.size W9).drew
          obtain ⟨i0, hi, hz0, hz1, hz2⟩ := info_parts info59
          go_region_law (first
            | (go_simp; go_at_call 63; (with_reducible refine (C.out _ hbr).mono ?_); rintro y w1 ⟨v', rfl, ⟨u', rfl, hu'⟩, hb1⟩; have HU' := Lib.hid hu'; obtain ⟨A2, d2, rfl, _⟩ := hu'; have hbw := hbr.trans (hb1.mono hbr.size); have K3 := (K9.drewN 1).after hb1; have k3 := K3.cell; have k3a := (K3.alloc (.cells #[.int .i64 c.op, .string c.path, .string c.to_, .slice A2 c.b.length d2] 59)).cell; have hs1 := hbw.size; simp only [dcells] at k3 k3a)
            | ((refine step_append_q _ rfl (.tmp 48) (.tmp 51) 54 rfl NBB base 59 i0 cz 4 64 Tryd.underlying54 hi hz0 hz1 hz2 rfl (by decide) cz_q _ d1.waits.length cs (by simp [Act.eval, Act.put]) (HO.out.below (hbw.alloc hbw.size _)) ⟨w1.heap.size, 0, none⟩ 1 1 [.int .i64 c.op, .string c.path, .string c.to_, .slice A2 c.b.length d2] (by simp [Act.eval, Act.put]) rfl (World.news_of_block (heap_alloc_new w1 _)) (row4q _ _ _ _ _ _) (by omega) (by unfold maxLen; omega) (by omega) (by simp; omega) ?_); intro g4 c4 w4 hown4 hgrow4 hat4 hlt4; have K4 := (K3.alloc (.cells #[.int .i64 c.op, .string c.path, .string c.to_, .slice A2 c.b.length d2] 59)).grown hgrow4 (fun e => by obtain ⟨_, cs', hB⟩ := (HO.out.below (hbw.alloc hbw.size (.cells #[.int .i64 c.op, .string c.path, .string c.to_, .slice A2 c.b.length d2] 59))).row b e.symm; exact type_ne hB (K3.alloc (.cells #[.int .i64 c.op, .string c.path, .string c.to_, .slice A2 c.b.length d2] 59)) (by decide) rfl); have k4 := K4.cell; have f4 := K4.free; simp only [dcells] at k4; clear k3 k3a)
            | fail)
          all_goals
            have ST := Lib.hid (do_end hbb hs9 K9 H9.out.1 H9.out.2.1 HO.out H9.out.2.2.1 H9.out.2.2.2 hbw HU'.out hown4 hgrow4)
            clear hown4 hgrow4 hat4 HO H9 HU' hb1 hbr hbw K3 K9
            go_wp2_with fail
            go_ret
            show DoPost _ _ _ _ _ _
            rw [DE2.out, if_neg (by omega)]
            exact ⟨rfl, ST.out.1, FR9.out.trans ST.out.2⟩
        · clear full
          go_upto_region 10 with (first
            | (go_at_call 10; (with_reducible refine (DB1.out _ (Below.refl _ _)).mono ?_); rintro x wd ⟨rfl, hbd⟩; clear kd kg; have KD1 := KD.after hbd; have kd := KD1.cell; simp only [dcells] at kd; have fd := KD1.free; have kg := (hKg.after hbd).cell)
            | (go_at_call 10; (with_reducible refine (DB2.out _ hbd).mono ?_); rintro x wd ⟨rfl, h5⟩; replace hbd := hbd.trans (h5.mono hbd.size); clear kd kg h5; replace KD1 := KD.after hbd; have kd := KD1.cell; simp only [dcells] at kd; replace fd := KD1.free; have kg := (hKg.after hbd).cell)
            | fail)
          obtain ⟨W9, hW9⟩ : ∃ W, W = wd.setCell ⟨b, 1, none⟩ (.slice A3 r.2.length c3) := ⟨_, rfl⟩
          have hg9 := grown_cell wd b 1 (.slice A3 r.2.length c3)
          have K9 : Bk (wd.setCell ⟨b, 1, none⟩ (.slice A3 r.2.length c3)) b 91 (dcells { d1 with now := r.2 } (.slice A3 r.2.length c3) ul uw uk) := KD1.set 1 _
          have hbwd := hb3.trans (hbd.mono hb3.size)
          have KC9 := (HKC.out.after hbwd).far (p := ⟨b, 1, none⟩) (by simp; omega) (.slice A3 r.2.length c3)
          rw [← hW9] at hg9 K9 KC9 ⊢
          clear hW9
          obtain ⟨e1, e2, e3, e4, hE9, hY9⟩ := disk_store KD1 (HDE.out.below hbwd) (hL.below hbwd) (hW.below hbwd) (hKe.below hbwd) hg9
          have T9 := hE9 _ _ (hTg.below hbd).ents
          have C := Lib.hid (fun W (hb : Below W9.heap.size W9 W) => cown_any c (.agg #[.int .i64 c.op, .string c.path, .string c.to_, .slice Ac c.b.length cc]) W ⟨_, rfl, (hY9 _ _ (HCU2.out.below hbwd)).below hb⟩ (by omega))
          obtain ⟨cs, hown, hcc⟩ := e3
          obtain ⟨Aw, cw, rfl⟩ := hown.form
          have hs9 : base ≤ W9.heap.size := by
            have := hg9.size
            have := hbwd.size
            omega
          have HO := Lib.hid hown
          have H9 := Lib.hid (And.intro T9 (And.intro e2 (And.intro hcc e4)))
          have FR9 := Lib.hid ((((FrD.of_below B0).trans (FrD.of_grown HG.out) : FrD base b w w2).trans (FrD.of_below hbwd)).trans (FrD.of_grown hg9))
          have k9 := K9.cell
          have kc := KC9.cell
          simp only [dcells] at k9
          clear hown hcc T9 e1 e2 e4 hE9 hY9 kd fd kg hg9
          have hbr := (Below.refl W9.heap.size W9).drew
          obtain ⟨i0, hi, hz0, hz1, hz2⟩ := info_parts info59
          go_region_law (first
            | (go_simp; go_at_call 63; (with_reducible refine (C.out _ hbr).mono ?_); rintro y w1 ⟨v', rfl, ⟨u', rfl, hu'⟩, hb1⟩; have HU' := Lib.hid hu'; obtain ⟨A2, d2, rfl, _⟩ := hu'; have hbw := hbr.trans (hb1.mono hbr.size); have K3 := (K9.drewN 1).after hb1; have k3 := K3.cell; have k3a := (K3.alloc (.cells #[.int .i64 c.op, .string c.path, .string c.to_, .slice A2 c.b.length d2] 59)).cell; have hs1 := hbw.size; simp only [dcells] at k3 k3a)
            | ((refine step_append_q _ rfl (.tmp 48) (.tmp 51) 54 rfl NBB base 59 i0 cz 4 64 Tryd.underlying54 hi hz0 hz1 hz2 rfl (by decide) cz_q _ d1.waits.length cs (by simp [Act.eval, Act.put]) (HO.out.below (hbw.alloc hbw.size _)) ⟨w1.heap.size, 0, none⟩ 1 1 [.int .i64 c.op, .string c.path, .string c.to_, .slice A2 c.b.length d2] (by simp [Act.eval, Act.put]) rfl (World.news_of_block (heap_alloc_new w1 _)) (row4q _ _ _ _ _ _) (by omega) (by unfold maxLen; omega) (by omega) (by simp; omega) ?_); intro g4 c4 w4 hown4 hgrow4 hat4 hlt4; have K4 := (K3.alloc (.cells #[.int .i64 c.op, .string c.path, .string c.to_, .slice A2 c.b.length d2] 59)).grown hgrow4 (fun e => by obtain ⟨_, cs', hB⟩ := (HO.out.below (hbw.alloc hbw.size (.cells #[.int .i64 c.op, .string c.path, .string c.to_, .slice A2 c.b.length d2] 59))).row b e.symm; exact type_ne hB (K3.alloc (.cells #[.int .i64 c.op, .string c.path, .string c.to_, .slice A2 c.b.length d2] 59)) (by decide) rfl); have k4 := K4.cell; have f4 := K4.free; simp only [dcells] at k4; clear k3 k3a)
            | fail)
          all_goals
            have ST := Lib.hid (do_end hbb hs9 K9 H9.out.1 H9.out.2.1 HO.out H9.out.2.2.1 H9.out.2.2.2 hbw HU'.out hown4 hgrow4)
            clear hown4 hgrow4 hat4 HO H9 HU' hb1 hbr hbw K3 K9
            go_wp2_with fail
            go_ret
            show DoPost _ _ _ _ _ _
            rw [DE2.out, if_neg (by omega)]
            exact ⟨rfl, ST.out.1, FR9.out.trans ST.out.2⟩
    · go_wp2_with fail
      go_ret
      have : doE d1 c = (r.1, d1) := DE.out.trans (by rw [if_neg he])
      show DoPost _ _ _ _ _ _
      rw [this]
      exact ⟨rfl, HD.out.below hb3, ((FrD.of_below B0).trans (FrD.of_grown HG.out)).trans (FrD.of_below hb3)⟩
end Go.Proofs.YtpfmenepgejgdaaDoor
