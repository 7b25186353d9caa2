/-
  THE PACKAGE disk: Crash, begin with a fuse. Own work.
-/
import Derived.Test.YtpfmenepgejgdaaDoorDo
import Derived.Test.YtpfmenepgejgdaaDoorMoves
import Derived.Test.YtpfmenepgejgdaaDoorShelf
namespace Go.Proofs.YtpfmenepgejgdaaDoor
open Go.RowKit

def tornC (c : Chg) (torn : Int) : Chg := if c.op = 1 ∧ 0 ≤ torn then { c with b := c.b.take torn.toNat } else c
def crashStep (keep : List Int) (torn : Int) (l : List Ent) (i : Nat) (c : Chg) : List Ent :=
  if keep.contains (i : Int) then (if (doneE l (tornC c torn)).1 = 0 then (doneE l (tornC c torn)).2 else l) else l
def crashL (keep : List Int) (torn : Int) : List Ent → Nat → List Chg → List Ent
  | l, _, [] => l
  | l, i, c :: r => crashL keep torn (crashStep keep torn l i c) (i + 1) r
theorem crashL_app (keep : List Int) (torn : Int) : ∀ (a b : List Chg) (l : List Ent) (i : Nat), crashL keep torn l i (a ++ b) = crashL keep torn (crashL keep torn l i a) (i + a.length) b
  | [], b, l, i => rfl
  | c :: r, b, l, i => by
    simp only [List.cons_append, crashL, List.length_cons]
    rw [crashL_app keep torn r b]
    congr 1
    omega
theorem crashL_good (keep : List Int) (torn : Int) : ∀ (a : List Chg) (l : List Ent) (i : Nat), goodT l = true → goodT (crashL keep torn l i a) = true
  | [], l, i, h => h
  | c :: r, l, i, h => by
    refine crashL_good keep torn r _ _ ?_
    unfold crashStep
    split
    · split
      · rename_i h0; exact done_good h0
      · exact h
    · exact h
def crashE (d : Dsk) (keep : List Int) (torn : Int) : Dsk :=
  if d.off then d else { d with now := crashL keep torn d.last 0 d.waits, last := crashL keep torn d.last 0 d.waits, waits := [], off := true, fuse := 0 }
def WSmall (d : Dsk) : Prop := ∀ c ∈ d.waits, CSmall c
def CrashPost (base b : Nat) (d : Dsk) (w : World) (x : Ending) (w' : World) : Prop := x = .returned (.tuple #[]) ∧ DiskAt w' base b d ∧ w.grownBy w' (some b)
/-- Whole numbers in a row. -/
def IntsV (w : World) (v : Value) (zs : List Int) : Prop :=
  ∃ A c, v = .slice A zs.length c ∧ zs.length ≤ c ∧ (0 < zs.length → ∃ b o, A = some ⟨b, o, none⟩ ∧ ∀ j z, zs[j]? = some z → w.cell? ⟨b, o + j, none⟩ = some (.int .i64 z))
theorem IntsV.nil (w : World) : IntsV w (.slice none 0 0) [] := ⟨none, 0, rfl, Nat.le_refl _, fun h => absurd h (by simp)⟩
theorem IntsV.below {w w1 : World} {v : Value} {zs : List Int} (h : IntsV w v zs) (hb : Below w.heap.size w w1) : IntsV w1 v zs := by
  obtain ⟨A, c, h1, h2, h3⟩ := h
  refine ⟨A, c, h1, h2, fun hp => ?_⟩
  obtain ⟨b, o, e, h4⟩ := h3 hp
  exact ⟨b, o, e, fun j z hj => cell_below hb (h4 j z hj)⟩
theorem KeepV.ints {w : World} {v : Value} {zs : List Int} (h : KeepV w v zs) : IntsV w v zs := by
  obtain ⟨base, h⟩ := h
  obtain ⟨A, c, h1, h2, _, h3⟩ := own_form h
  refine ⟨A, c, h1, h2, fun hp => ?_⟩
  obtain ⟨g, e, h4⟩ := h3 hp
  exact ⟨g, 0, e, fun j z hj => h4 j _ (by rw [List.getElem?_map, hj]; rfl)⟩
theorem contains_any (v : Value) (zs : List Int) (x : Int) (w : World) (h : IntsV w v zs) (hn : zs.length ≤ 1048576) :
    Calls Tryd.prog 64 #[v, .int .i64 x] w fun e w' => e = .returned (.bool (zs.contains x)) ∧ w' = w := by
  obtain ⟨A, c, rfl, h2, h3⟩ := h
  by_cases hp : 0 < zs.length
  · obtain ⟨b, o, rfl, h4⟩ := h3 hp
    have := Tryd.slices_Contains_int b o zs.length c zs x w (Nat.le_refl _) (by omega) (fun j hj => by
      rw [h4 j _ (List.getElem?_eq_getElem hj), List.getD_eq_getElem?_getD, List.getElem?_eq_getElem hj]; rfl)
    rwa [List.take_length] at this
  · have h0 : zs = [] := List.eq_nil_of_length_eq_zero (by omega)
    subst h0
    exact Tryd.slices_Contains_int_empty A c x w
theorem Byt.take {w : World} {A : Option Addr} {n c : Nat} {bs : List UInt8} (h : Byt w (.slice A n c) bs) (k : Nat) (hk : k ≤ bs.length) : Byt w (.slice A k c) (bs.take k) := by
  obtain ⟨A', c', h1, h2, h3, h4⟩ := h
  injection h1 with e1 e2 e3
  subst e1 e3
  have hl : (bs.take k).length = k := List.length_take_of_le hk
  refine ⟨A, c, by rw [hl], by omega, h3, fun hp => ?_⟩
  obtain ⟨b, o, e, h5⟩ := h4 (by omega)
  refine ⟨b, o, e, fun j x hj => h5 j x ?_⟩
  rw [List.getElem?_take] at hj
  split at hj
  · exact hj
  · cases hj
/-- The changes' cells. -/
theorem ChgRow.at {w : World} {base : Nat} {A : Option Addr} {n cw : Nat} {l : List Chg} (h : ChgRow w base (.slice A n cw) l) {k : Nat} {c : Chg} (hk : l[k]? = some c) :
    ∃ g u, A = some ⟨g, 0, none⟩ ∧ n ≤ cw ∧ w.cell? ⟨g, k * 4, none⟩ = some (.int .i64 c.op) ∧ w.cell? ⟨g, k * 4 + 1, none⟩ = some (.string c.path) ∧ w.cell? ⟨g, k * 4 + 2, none⟩ = some (.string c.to_) ∧ w.cell? ⟨g, k * 4 + 3, none⟩ = some u ∧ Byt w u c.b := by
  obtain ⟨cs, h1, h2⟩ := h
  obtain ⟨A', c', e1, e2, _, h3⟩ := own_form h1.own
  injection e1 with e1 e3 e4
  subst e1 e3 e4
  obtain ⟨g, e, h4⟩ := h3 (by have := (List.getElem?_eq_some_iff.1 hk).1; omega)
  obtain ⟨u, c0, c1, c2, c3, hu⟩ := CC.get h2 hk
  refine ⟨g, u, e, e2, ?_, ?_, ?_, ?_, hu⟩
  · have := h4 _ _ c0; rwa [Nat.zero_add] at this
  · have := h4 _ _ c1; rwa [Nat.zero_add] at this
  · have := h4 _ _ c2; rwa [Nat.zero_add] at this
  · have := h4 _ _ c3; rwa [Nat.zero_add] at this
theorem ChgRow.form {w : World} {base : Nat} {v : Value} {l : List Chg} (h : ChgRow w base v l) : ∃ A c, v = .slice A l.length c := by
  obtain ⟨cs, h1, _⟩ := h
  exact h1.form
theorem crashL_snoc (keep : List Int) (torn : Int) (l : List Ent) {cs : List Chg} {k : Nat} {c : Chg} (h : cs[k]? = some c) :
    crashL keep torn l 0 (cs.take (k + 1)) = crashStep keep torn (crashL keep torn l 0 (cs.take k)) k c := by
  have hk := (List.getElem?_eq_some_iff.1 h).1
  rw [show cs.take (k + 1) = cs.take k ++ [c] by rw [List.take_add_one, h]; rfl, crashL_app, List.length_take_of_le (by omega), Nat.zero_add]
  rfl
theorem tornC_same (c : Chg) (torn : Int) : (tornC c torn).op = c.op ∧ (tornC c torn).path = c.path ∧ (tornC c torn).to_ = c.to_ := by
  unfold tornC
  split <;> exact ⟨rfl, rfl, rfl⟩
theorem tornC_no {c : Chg} {torn : Int} (h : ¬ (c.op = 1 ∧ 0 ≤ torn)) : tornC c torn = c := if_neg h
theorem tornC_yes {c : Chg} {torn : Int} (h1 : c.op = 1) (h2 : 0 ≤ torn) : (tornC c torn).b = c.b.take torn.toNat := by
  unfold tornC
  rw [if_pos ⟨h1, h2⟩]
theorem d5T {w4 W : World} {P1 P2 P3 P4 P5 : Prop} (h : P1 ∧ P2 ∧ P3 ∧ P4 ∧ P5 ∧ Below w4.heap.size w4 W) : Below w4.heap.size w4 W := h.2.2.2.2.2
theorem d5N {w4 W w5 : World} {P1 P2 P3 P4 P5 : Prop} (h : P1 ∧ P2 ∧ P3 ∧ P4 ∧ P5 ∧ Below w4.heap.size w4 W) (hb : Below W.heap.size W w5) : Below w4.heap.size w4 w5 := (d5T h).trans (hb.mono (d5T h).size)
theorem d5A {w4 W : World} {P1 P2 P3 P4 P5 : Prop} (h : P1 ∧ P2 ∧ P3 ∧ P4 ∧ P5 ∧ Below w4.heap.size w4 W) (o : Obj) : Below w4.heap.size w4 (W.alloc o) := (d5T h).alloc (d5T h).size o
theorem tornC_b (c : Chg) (torn : Int) (h : CSmall c) : (tornC c torn).b.length ≤ 40000 := by
  unfold tornC
  have := h.2.2
  split
  · simp only [List.length_take]; omega
  · exact this

/-- What stands behind a crash. -/
theorem crash_fin {w wr : World} {base b n cw cl : Nat} {d : Dsk} {t : List Ent} {un uk : Value} {Al Aw : Option Addr} (hbb : base ≤ b) (hg : w.grownBy wr (some b))
    (hK : Bk wr b 91 (dcells { d with last := t } un (.slice Al t.length cl) (.slice Aw n cw) uk)) (hL : Ents wr (.slice Al t.length cl) t) (hn : NBS un) (hk : KeepV wr uk d.keep) :
    DiskAt ((((wr.setCell ⟨b, 1, none⟩ (.slice Al t.length cl)).setCell ⟨b, 3, none⟩ (.slice none 0 0)).setCell ⟨b, 4, none⟩ (.bool true)).setCell ⟨b, 6, none⟩ (.int .i64 0)) base b { d with now := t, last := t, waits := [], off := true, fuse := 0 } ∧
    w.grownBy ((((wr.setCell ⟨b, 1, none⟩ (.slice Al t.length cl)).setCell ⟨b, 3, none⟩ (.slice none 0 0)).setCell ⟨b, 4, none⟩ (.bool true)).setCell ⟨b, 6, none⟩ (.int .i64 0)) (some b) := by
  have hgB : wr.grownBy ((((wr.setCell ⟨b, 1, none⟩ (.slice Al t.length cl)).setCell ⟨b, 3, none⟩ (.slice none 0 0)).setCell ⟨b, 4, none⟩ (.bool true)).setCell ⟨b, 6, none⟩ (.int .i64 0)) (some b) := grown_set (grown_set (grown_set (grown_cell wr b 1 _) 3 _) 4 _) 6 _
  have hB := disk_blkS hK hn hL.nbs ⟨fun _ => by simp, fun _ => by simp⟩ hk.nbs
  have hE := hL.grownS hgB hB
  exact ⟨⟨hbb, _, _, _, uk, (((hK.set 1 _).set 3 _).set 4 _).set 6 _, hE, hE, ChgRow.nil _ _, hk.grown hgB (fun g e => by injection e with e; subst e; exact ⟨_, _, hK, by decide⟩)⟩, grown_set (grown_set (grown_set (grown_set hg 1 _) 3 _) 4 _) 6 _⟩

set_option maxRecDepth 100000 in
set_option maxHeartbeats 4000000 in
theorem crash_any (base b : Nat) (d : Dsk) (kv : Value) (keep : List Int) (torn m : Int) (w : World) (h : DiskAt w base b d) (hk : ∀ W, w.grownBy W (some b) → IntsV W kv keep) (hkl : keep.length ≤ 1048576) (hmb : 0 < base) (hg1 : DGood d) (hws : WSmall d) (hm : Mx m w) :
    Calls Tryd.prog 32 #[.pointer (some ⟨b, 0, none⟩), kv, .int .i64 torn] w (CrashPost base b (crashE d keep torn) w) := by
  have hbl := h.lt
  have hbb := h.1
  have HD := Lib.hid h
  obtain ⟨_, un, ul, uw, uk, hK, hN, hL, hW, hKe⟩ := h
  cases ho : d.off with
  | true =>
    have k4 := hK.cell 4
    simp only [dcells, List.getElem?_toArray, List.getElem?_cons_zero, List.getElem?_cons_succ] at k4
    rw [ho] at k4
    have CE : Hid (crashE d keep torn = d) := by
      have : crashE d keep torn = d := by unfold crashE; rw [ho]; rfl
      exact this
    clear ho
    go_enter Tryd.func32, Tryd.ntmps32
    go_wp2_with fail
    refine bodyPost_ret (v := .tuple #[]) (by simp [results, Tryd.results32, go_sem]) rfl ?_
    show CrashPost _ _ _ _ _ _
    rw [CE.out]
    exact ⟨rfl, HD.out, grown_refl w _⟩
  | false =>
    have O := Lib.hid ho
    obtain ⟨Aw, cw, rfl⟩ := hW.form
    obtain ⟨L, hLd⟩ : ∃ L : Nat → List Ent, L = fun k => crashL keep torn d.last 0 (d.waits.take k) := ⟨_, rfl⟩
    have L0 : L 0 = d.last := by rw [hLd]; rfl
    have LS : ∀ k c, d.waits[k]? = some c → L (k + 1) = crashStep keep torn (L k) k c := fun k c h => by rw [hLd]; exact crashL_snoc keep torn d.last h
    have LG : ∀ k, goodT (L k) = true := fun k => by rw [hLd]; exact crashL_good keep torn _ _ _ hg1.2.1
    have CE : Hid (crashE d keep torn = { d with now := L d.waits.length, last := L d.waits.length, waits := [], off := true, fuse := 0 }) := by
      have : crashE d keep torn = { d with now := L d.waits.length, last := L d.waits.length, waits := [], off := true, fuse := 0 } := by unfold crashE; rw [ho, hLd]; simp only [List.take_length]; rfl
      exact this
    clear hLd
    have hwl := hg1.2.2.1
    have k4 := hK.cell 4
    have k3 := hK.cell 3
    simp only [dcells, List.getElem?_toArray, List.getElem?_cons_zero, List.getElem?_cons_succ] at k3 k4
    rw [ho] at k4
    clear ho
    go_enter Tryd.func32, Tryd.ntmps32
    go_wp2_with fail
    go_loopw [19] (fun i wr => ∃ k : Nat, k ≤ d.waits.length ∧ i = .int .i64 k ∧ w.grownBy wr (some b) ∧ ∃ ul', Bk wr b 91 (dcells { d with last := L k } un ul' (.slice Aw d.waits.length cw) uk) ∧ Ents wr ul' (L k)) (fun i _ => d.waits.length - (intOf i).toNat)
    case atStart =>
      refine ⟨0, Nat.zero_le _, rfl, grown_refl w _, ul, ?_, ?_⟩
      · rw [L0]; exact hK
      · rw [L0]; exact hL
    case round =>
      obtain ⟨k, hk1, rfl, hg, ul', hKr, hLr⟩ := hrel
      by_cases hlt : k < d.waits.length
      · obtain ⟨c, hkc⟩ : ∃ c, d.waits[k]? = some c := ⟨_, List.getElem?_eq_getElem hlt⟩
        obtain ⟨-, -, eW, -, -, -⟩ := disk_store hK hN hL hW hKe hg
        obtain ⟨gw, u, rfl, hncw, c0, c1, c2, c3, hu⟩ := eW.at hkc
        have HU := Lib.hid hu
        obtain ⟨Au, cu, rfl, _⟩ := hu
        have CT := Lib.hid (fun W (hb : Below wr.heap.size wr W) => contains_any kv keep k W ((hk wr hg).below hb) hkl)
        have hcs := hws c (List.mem_of_getElem? hkc)
        have LSk := LS k c hkc
        unfold crashStep at LSk
        have HG := Lib.hid hg
        have HKR := Lib.hid hKr
        have HLR := Lib.hid hLr
        have B3 := (Below.refl wr.heap.size wr).alloc (Nat.le_refl _) (.cells #[.int .i64 c.op, .string c.path, .string c.to_, .slice Au c.b.length cu] 59)
        cases hct : keep.contains (k : Int) with
        | false =>
          rw [hct] at LSk
          have CX := Lib.hid hct
          clear hct eW hg hKr hLr
          go_wp2_with (go_at_call 64; (with_reducible refine (CT.out _ B3).mono ?_); rintro x w2 ⟨rfl, rfl⟩; rw [CX.out])
          go_roundw
          case rel =>
            refine ⟨k + 1, hlt, by go_num, grown_below HG.out B3, ul', ?_, ?_⟩
            · rw [LSk]; exact HKR.out.after B3
            · rw [LSk]; exact HLR.out.below B3
          case measure => simp [intOf]; omega
        | true =>
          rw [hct] at LSk
          have CX := Lib.hid hct
          clear hct eW hg hKr hLr
          have KC := Bk.new wr 59 #[.int .i64 c.op, .string c.path, .string c.to_, .slice Au c.b.length cu]
          have HU3 : Hid (Byt (wr.alloc (.cells #[.int .i64 c.op, .string c.path, .string c.to_, .slice Au c.b.length cu] 59)) (.slice Au c.b.length cu) c.b) := Lib.hid (HU.out.below B3)
          obtain ⟨c2, hc2⟩ : ∃ c2, c2 = tornC c torn := ⟨_, rfl⟩
          have T1 : Hid (¬ (c.op = 1 ∧ 0 ≤ torn) → c2 = c) := Lib.hid (fun h => by rw [hc2, tornC_no h])
          have T2 : Hid (c.op = 1 → 0 ≤ torn → c2.b = c.b.take torn.toNat) := Lib.hid (fun h h' => by rw [hc2, tornC_yes h h'])
          have S2 : Hid (c2.op = c.op ∧ c2.path = c.path ∧ c2.to_ = c.to_) := Lib.hid (by rw [hc2]; exact tornC_same c torn)
          have S3 : Hid (c2.b.length ≤ 40000) := Lib.hid (by rw [hc2]; exact tornC_b c torn hcs)
          rw [← hc2] at LSk
          clear hc2
          obtain ⟨r, hr⟩ : ∃ r, r = doneE (L k) c2 := ⟨_, rfl⟩
          rw [← hr, if_pos rfl] at LSk
          have hlen := goodT_len (LG k)
          have hsz := good_sizes (LG k)
          have hmw : Mx m wr := (((FrD.of_grown HG.out : FrD base b w wr).below hbb (by omega)).cell (p := ⟨0, 0, none⟩) hmb).trans hm
          obtain ⟨Al, cl, hul⟩ := ents_form2 HLR.out
          subst hul
          go_upto_if 34 with (go_at_call 64; (with_reducible refine (CT.out _ B3).mono ?_); rintro x w2 ⟨rfl, rfl⟩; rw [CX.out])
          · rename_i hop
            have HOP := Lib.hid hop
            rw [hop] at B3 KC HU3
            clear hop
            go_cut [] (fun wx => Below wr.heap.size wr wx ∧ ∃ A' c', Bk wx wr.heap.size 59 #[.int .i64 c.op, .string c.path, .string c.to_, .slice A' c2.b.length c'] ∧ Byt wx (.slice A' c2.b.length c') c2.b)
            case first =>
              by_cases ht : 0 ≤ torn
              · have kc := KC.cell
                have fc := KC.free
                have hb2 := T2.out HOP.out ht
                have e : c2.b = c.b.take (min torn c.b.length).toNat := by
                  rw [hb2]
                  by_cases hle : torn ≤ c.b.length
                  · rw [show (min torn (c.b.length : Int)).toNat = torn.toNat by omega]
                  · rw [List.take_of_length_le (by omega), List.take_of_length_le (by omega)]
                have hl2 : c2.b.length = (min torn c.b.length).toNat := by rw [e, List.length_take]; omega
                have E2 := Lib.hid e
                have H2 := Lib.hid hl2
                clear e hl2 hb2
                go_wp2_with fail
                go_meet
                refine ⟨(Below.refl _ _).alloc (Nat.le_refl _) _, Au, cu, ?_, ?_⟩
                · rw [HOP.out, H2.out]; exact Bk.new _ _ _
                · have h := (HU.out.take ((min torn c.b.length).toNat) (by omega)).below ((Below.refl _ _).alloc (Nat.le_refl _) (.cells #[.int .i64 1, .string c.path, .string c.to_, .slice Au (min torn c.b.length).toNat cu] 59))
                  rw [← E2.out] at h
                  rw [H2.out]
                  exact h
              · go_wp2_with fail
                go_meet
                have := T1.out (fun h => by omega)
                rw [this, HOP.out]
                exact ⟨B3, Au, cu, KC, HU3.out⟩
            obtain ⟨hbx, A', c', hKx, hBx⟩ := hcut
            obtain ⟨wq, hwq⟩ : ∃ wq, wq = wc := ⟨_, rfl⟩
            subst hwq
            have CD := Lib.hid (fun W (hb : Below wq.heap.size wq W) => done_any (L k) c2 (.agg #[.slice Al (L k).length cl]) (.agg #[.int .i64 c.op, .string c.path, .string c.to_, .slice A' c2.b.length c']) m W ⟨_, rfl, HLR.out.below (hbx.trans (hb.mono hbx.size))⟩ ⟨_, by rw [S2.out.1, S2.out.2.1, S2.out.2.2], hBx.below hb⟩ (by omega) (by omega) hsz (by rw [S2.out.2.1]; exact hcs.1) (by rw [S2.out.2.2]; exact hcs.2.1) S3.out (hmw.below (hbx.trans (hb.mono hbx.size))))
            rw [← hr] at CD
            clear hr
            have KB := HKR.out.after hbx
            have q1 := KB.cell 2
            have q20 := hKx.cell 0
            have q21 := hKx.cell 1
            have q22 := hKx.cell 2
            have q23 := hKx.cell 3
            simp only [dcells, List.getElem?_toArray, List.getElem?_cons_zero, List.getElem?_cons_succ] at q1 q20 q21 q22 q23
            clear hKx hBx
            go_upto_region 7 with fail
            go_cut [8, 9] (fun s8 s9 wx => s9 = .int .i64 r.1 ∧ Below wq.heap.size wq wx ∧ ∃ g u, s8 = .pointer (some ⟨g, 0, none⟩) ∧ wq.heap.size ≤ g ∧ Bk wx g 25 #[u] ∧ TreeV wx (.agg #[u]) r.2)
            case first =>
              go_region_held3 (fun w' => w'.cell? ⟨b, 2, none⟩ = some (.slice Al (L k).length cl) ∧ w'.cell? ⟨wr.heap.size, 0, none⟩ = some (.int .i64 c.op) ∧ w'.cell? ⟨wr.heap.size, 1, none⟩ = some (.string c.path) ∧ w'.cell? ⟨wr.heap.size, 2, none⟩ = some (.string c.to_) ∧ w'.cell? ⟨wr.heap.size, 3, none⟩ = some (.slice A' c2.b.length c') ∧ Below wq.heap.size wq w')
                (refine ⟨cell_below (w := wq) ?_ q1, cell_below (w := wq) ?_ q20, cell_below (w := wq) ?_ q21, cell_below (w := wq) ?_ q22, cell_below (w := wq) ?_ q23, ?_⟩ <;> first | assumption | exact (Below.refl _ wq).drew | exact d5A (by assumption) _ | exact Below.alloc (by assumption) (by omega) _ | exact Below.setCell (by assumption) (by first | exact Nat.le_refl _ | (simp <;> omega)) _)
                (first
                  | (go_at_call 62; (with_reducible refine (CD.out _ (d5T (by assumption))).mono ?_); rintro x w3 ⟨v, rfl, ht, h⟩; have hb3 := d5N (w4 := wq) (by assumption) h; have T3 := Lib.hid ht; obtain ⟨A3, c3, rfl⟩ := tpost_form ht; clear ht; have hs3 := hb3.size; (try (have KX : Bk w3 wq.heap.size 25 #[.slice none 0 0] := ((Bk.new wq _ _).drewN 1).after h; have kx := KX.cell; have fx := KX.free)); clear h)
                  | fail)
              all_goals
                go_wp2_with fail
                go_meet
                first
                  | exact ⟨rfl, Below.alloc hb3 hs3 _, _, _, rfl, hs3, Bk.new _ _ _, T3.out.below ((Below.refl _ _).alloc (Nat.le_refl _) _)⟩
                  | exact ⟨rfl, Below.setCell hb3 (by first | exact Nat.le_refl _ | (simp <;> omega)) _, _, _, rfl, Nat.le_refl _, KX.set 0 _, T3.out.set1 KX _⟩
            obtain ⟨rfl, hb3, g, u, rfl, hgg, hKg, hTg⟩ := hcut
            clear q1 q20 q21 q22 q23
            obtain ⟨A3, c3, hv3⟩ := tpost_form hTg
            injection hv3 with hv3
            injection hv3 with hv3
            injection hv3 with hv3 _
            subst hv3
            have KB3 := KB.after hb3
            have hgx := grown_below HG.out (hbx.trans (hb3.mono hbx.size))
            have T3 := Lib.hid hTg
            have kb := KB3.cell
            have fb := KB3.free
            have kg := hKg.cell
            simp only [dcells] at kb
            obtain ⟨-, -, -, eK, -, -⟩ := disk_store hK hN hL hW hKe hgx
            by_cases he : r.1 = 0
            · rw [if_pos he] at LSk
              have LX := Lib.hid LSk
              have HX := Lib.hid hgx
              have HE := Lib.hid he
              clear LSk hgx hTg
              go_wp2_with fail
              go_roundw
              case rel =>
                refine ⟨k + 1, hlt, by go_num, grown_set HX.out 2 _, .slice A3 r.2.length c3, ?_, ?_⟩
                · rw [LX.out]; exact KB3.set 2 _
                · rw [LX.out]; exact T3.out.ents.grownS (grown_cell _ b 2 _) (disk_blkS KB3 hN.nbs ⟨fun _ => by simp, fun _ => by simp⟩ ⟨fun _ => by simp, fun _ => by simp⟩ eK.nbs)
              case measure => simp [intOf]; omega
            · rw [if_neg he] at LSk
              have LX := Lib.hid LSk
              have HX := Lib.hid hgx
              clear LSk hgx hTg
              go_wp2_with fail
              go_roundw
              case rel =>
                refine ⟨k + 1, hlt, by go_num, HX.out, .slice Al (L k).length cl, ?_, ?_⟩
                · rw [LX.out]; exact KB3
                · rw [LX.out]; exact HLR.out.below (hbx.trans (hb3.mono hbx.size))
              case measure => simp [intOf]; omega
          · rename_i hop
            have HOP := Lib.hid hop
            clear hop
            go_cut [] (fun wx => Below wr.heap.size wr wx ∧ ∃ A' c', Bk wx wr.heap.size 59 #[.int .i64 c.op, .string c.path, .string c.to_, .slice A' c2.b.length c'] ∧ Byt wx (.slice A' c2.b.length c') c2.b)
            case first =>
              go_wp2_with fail
              go_meet
              have := T1.out (fun h => HOP.out h.1)
              rw [this]
              exact ⟨B3, Au, cu, KC, HU3.out⟩
            obtain ⟨hbx, A', c', hKx, hBx⟩ := hcut
            obtain ⟨wq, hwq⟩ : ∃ wq, wq = wc := ⟨_, rfl⟩
            subst hwq
            have CD := Lib.hid (fun W (hb : Below wq.heap.size wq W) => done_any (L k) c2 (.agg #[.slice Al (L k).length cl]) (.agg #[.int .i64 c.op, .string c.path, .string c.to_, .slice A' c2.b.length c']) m W ⟨_, rfl, HLR.out.below (hbx.trans (hb.mono hbx.size))⟩ ⟨_, by rw [S2.out.1, S2.out.2.1, S2.out.2.2], hBx.below hb⟩ (by omega) (by omega) hsz (by rw [S2.out.2.1]; exact hcs.1) (by rw [S2.out.2.2]; exact hcs.2.1) S3.out (hmw.below (hbx.trans (hb.mono hbx.size))))
            rw [← hr] at CD
            clear hr
            have KB := HKR.out.after hbx
            have q1 := KB.cell 2
            have q20 := hKx.cell 0
            have q21 := hKx.cell 1
            have q22 := hKx.cell 2
            have q23 := hKx.cell 3
            simp only [dcells, List.getElem?_toArray, List.getElem?_cons_zero, List.getElem?_cons_succ] at q1 q20 q21 q22 q23
            clear hKx hBx
            go_upto_region 7 with fail
            go_cut [8, 9] (fun s8 s9 wx => s9 = .int .i64 r.1 ∧ Below wq.heap.size wq wx ∧ ∃ g u, s8 = .pointer (some ⟨g, 0, none⟩) ∧ wq.heap.size ≤ g ∧ Bk wx g 25 #[u] ∧ TreeV wx (.agg #[u]) r.2)
            case first =>
              go_region_held3 (fun w' => w'.cell? ⟨b, 2, none⟩ = some (.slice Al (L k).length cl) ∧ w'.cell? ⟨wr.heap.size, 0, none⟩ = some (.int .i64 c.op) ∧ w'.cell? ⟨wr.heap.size, 1, none⟩ = some (.string c.path) ∧ w'.cell? ⟨wr.heap.size, 2, none⟩ = some (.string c.to_) ∧ w'.cell? ⟨wr.heap.size, 3, none⟩ = some (.slice A' c2.b.length c') ∧ Below wq.heap.size wq w')
                (refine ⟨cell_below (w := wq) ?_ q1, cell_below (w := wq) ?_ q20, cell_below (w := wq) ?_ q21, cell_below (w := wq) ?_ q22, cell_below (w := wq) ?_ q23, ?_⟩ <;> first | assumption | exact (Below.refl _ wq).drew | exact d5A (by assumption) _ | exact Below.alloc (by assumption) (by omega) _ | exact Below.setCell (by assumption) (by first | exact Nat.le_refl _ | (simp <;> omega)) _)
                (first
                  | (go_at_call 62; (with_reducible refine (CD.out _ (d5T (by assumption))).mono ?_); rintro x w3 ⟨v, rfl, ht, h⟩; have hb3 := d5N (w4 := wq) (by assumption) h; have T3 := Lib.hid ht; obtain ⟨A3, c3, rfl⟩ := tpost_form ht; clear ht; have hs3 := hb3.size; (try (have KX : Bk w3 wq.heap.size 25 #[.slice none 0 0] := ((Bk.new wq _ _).drewN 1).after h; have kx := KX.cell; have fx := KX.free)); clear h)
                  | fail)
              all_goals
                go_wp2_with fail
                go_meet
                first
                  | exact ⟨rfl, Below.alloc hb3 hs3 _, _, _, rfl, hs3, Bk.new _ _ _, T3.out.below ((Below.refl _ _).alloc (Nat.le_refl _) _)⟩
                  | exact ⟨rfl, Below.setCell hb3 (by first | exact Nat.le_refl _ | (simp <;> omega)) _, _, _, rfl, Nat.le_refl _, KX.set 0 _, T3.out.set1 KX _⟩
            obtain ⟨rfl, hb3, g, u, rfl, hgg, hKg, hTg⟩ := hcut
            clear q1 q20 q21 q22 q23
            obtain ⟨A3, c3, hv3⟩ := tpost_form hTg
            injection hv3 with hv3
            injection hv3 with hv3
            injection hv3 with hv3 _
            subst hv3
            have KB3 := KB.after hb3
            have hgx := grown_below HG.out (hbx.trans (hb3.mono hbx.size))
            have T3 := Lib.hid hTg
            have kb := KB3.cell
            have fb := KB3.free
            have kg := hKg.cell
            simp only [dcells] at kb
            obtain ⟨-, -, -, eK, -, -⟩ := disk_store hK hN hL hW hKe hgx
            by_cases he : r.1 = 0
            · rw [if_pos he] at LSk
              have LX := Lib.hid LSk
              have HX := Lib.hid hgx
              have HE := Lib.hid he
              clear LSk hgx hTg
              go_wp2_with fail
              go_roundw
              case rel =>
                refine ⟨k + 1, hlt, by go_num, grown_set HX.out 2 _, .slice A3 r.2.length c3, ?_, ?_⟩
                · rw [LX.out]; exact KB3.set 2 _
                · rw [LX.out]; exact T3.out.ents.grownS (grown_cell _ b 2 _) (disk_blkS KB3 hN.nbs ⟨fun _ => by simp, fun _ => by simp⟩ ⟨fun _ => by simp, fun _ => by simp⟩ eK.nbs)
              case measure => simp [intOf]; omega
            · rw [if_neg he] at LSk
              have LX := Lib.hid LSk
              have HX := Lib.hid hgx
              clear LSk hgx hTg
              go_wp2_with fail
              go_roundw
              case rel =>
                refine ⟨k + 1, hlt, by go_num, HX.out, .slice Al (L k).length cl, ?_, ?_⟩
                · rw [LX.out]; exact KB3
                · rw [LX.out]; exact HLR.out.below (hbx.trans (hb3.mono hbx.size))
              case measure => simp [intOf]; omega
      · obtain rfl : d.waits.length = k := by omega
        obtain ⟨-, -, -, eK, -, -⟩ := disk_store hK hN hL hW hKe hg
        have HG := Lib.hid hg
        have HK := Lib.hid hKr
        have HL := Lib.hid hLr
        obtain ⟨Al, cl, rfl, _⟩ := hLr
        have kr := hKr.cell
        have fr := hKr.free
        simp only [dcells] at kr
        clear hg
        go_wp2_with fail
        refine bodyPost_end (v := .tuple #[]) (by simp [results, Tryd.results32, go_sem]) rfl ?_
        show CrashPost _ _ _ _ _ _
        rw [CE.out]
        exact ⟨rfl, crash_fin hbb HG.out HK.out HL.out hN.nbs eK⟩
end Go.Proofs.YtpfmenepgejgdaaDoor
