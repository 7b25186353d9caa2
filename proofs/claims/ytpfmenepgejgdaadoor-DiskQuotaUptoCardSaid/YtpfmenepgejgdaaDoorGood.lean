/-
  tree.Good. Own work.
-/
import Derived.Test.YtpfmenepgejgdaaDoorOwn
import Derived.Maps.OwnOps
import Derived.Maps.Views
import Derived.Deep.RegionHeld3
import Derived.Deep.DrawnRows
import Derived.StillTailTactics
namespace Go.Proofs.YtpfmenepgejgdaaDoor
open Go.RowKit

/-! ### the map of what may be stood in -/
abbrev U := Unit
/-- A map of bools by texts reads as f. -/
def Reads1 (D : DataW U) (f : Pl.Bs → Bool) : Prop := Maps.IsMap D ∧ ∀ p : Pl.Bs, D.atKey (.string p) (.lit (.bool false)) = .lit (.bool (f p))
theorem law9 : Maps.Keyed Tryd.prog 9 := Maps.string_keyed Tryd.underlying9
theorem key9 (s : ByteArray) (hs : s.size ≤ 1048576) : keyOf Tryd.prog 9 (.string s) = some (.string (bd s)) :=
  WideMaps.keyOf_string_mk Tryd.underlying9 (by unfold maxLen; omega)
theorem isMap_put {D : DataW U} (h : Maps.IsMap D) (l : Lit) (d : DataW U) : Maps.IsMap (D.put l d) := by
  obtain ⟨es, rfl⟩ := h
  exact ⟨_, rfl⟩
theorem Reads1.put {D : DataW U} {f : Pl.Bs → Bool} (h : Reads1 D f) (p : Pl.Bs) (x : Bool) : Reads1 (D.put (.string p) (.lit (.bool x))) (fun q => if q = p then x else f q) := by
  refine ⟨isMap_put h.1 _ _, fun q => ?_⟩
  by_cases hq : q = p
  · subst hq
    rw [Maps.atKey_put_same h.1 (show WideAt.IsKeyLit (.string q) from trivial)]
    simp
  · rw [Maps.atKey_put_other (fun e => hq (by injection e)), h.2]
    simp [hq]

theorem plainBool_inv {v : Value} {z : DataW U × List MemPlace} (h : plainElem Tryd.prog 4 v = some z) : ∃ x, v = .bool x ∧ z = (.lit (.bool x), []) := by
  have hb := Tryd.underlying4
  generalize Tryd.prog = P at h hb
  unfold plainElem at h
  rw [hb] at h
  cases v <;> simp at h
  exact ⟨_, rfl, h.symm⟩

theorem lookup_bool {w : World} {b n : Nat} {D : DataW U} {f : Pl.Bs → Bool} (h : w.ownsMap Tryd.prog 9 (plainElem Tryd.prog 4) b n D) (hD : Reads1 D f) (s : ByteArray) (hs : s.size ≤ 1048576) :
    (Instr.lookup 70 (.map (some b)) (.string s) false).run Tryd.prog w = .ok (.bool (f (bd s))) w := by
  have hz : (zeroValue 4).run Tryd.prog w = .ok (.bool false) w := by kernel_rfl
  obtain ⟨v, ps, hrun, hv⟩ := h.lookup law9 Tryd.underlying70 hz (plainElem_bool Tryd.underlying4 false) (key9 s hs)
  obtain ⟨x, rfl, hx⟩ := plainBool_inv hv
  rw [hD.2] at hx
  simp only [Prod.mk.injEq, DataW.lit.injEq, Lit.bool.injEq] at hx
  rw [hrun, hx.1]

/-- A map literal's store. -/
theorem list_insert {P : Program} (w : World) {ops : Array Oper} {rest : List Oper} {o : Oper} {a : Act} {Q : Exit → Act → World → Prop}
    (hg : o.guard = none) (m x v : Operand) (t : TypeId) (hop : o.op = Op.insert t m x v)
    (k e : TypeId) (K : Maps.Keyed P k) (ht : P.underlying t = some (.map k e)) (R : Value → Option (DataW U × List MemPlace)) (b n : Nat) (D : DataW U)
    (hm : a.eval m = .map (some b)) (hown : w.ownsMap P k R b n D) (hn : n < maxLen) (key val : Value) (kl : Lit) (hx : a.eval x = key) (hv : a.eval v = val) (hkey : keyOf P k key = some kl)
    (d : DataW U) (ps : List MemPlace) (hval : R val = some (d, ps))
    (hK : ∀ w', w'.ownsMap P k R b (n + 1) (D.put kl d) → w.grownBy w' (some b) → wpList P ops Q rest (a.put o.dst undef) w') :
    wpList P ops Q (o :: rest) a w := by
  refine wpList_plain hg fun K' hK' => ?_
  obtain ⟨w', hrun, r1, r2⟩ := hown.update K ht hn hkey hval
  unfold Oper.wp
  simp [execOp, hop, hm, hx, hv, hrun, Result.andThen]
  exact hK' _ _ (hK w' r1 r2)

/-! ### what may be -/
/-- The rest of a tree may be: f tells what may be stood in, q what stood just ahead. -/
def goodFrom (f : Pl.Bs → Bool) (q : Option Ent) : List Ent → Bool
  | [] => true
  | e :: r => gpB e.path && f (bd (upS e.path)) && !(e.dir && decide (0 < e.b.length)) && decide (e.b.length ≤ 2048) &&
      (match q with | none => true | some x => decide (Pl.pc (bd x.path) (bd e.path) < 0)) && goodFrom (fun p => if p = bd e.path then e.dir else f p) (some e) r
def stepOk (f : Pl.Bs → Bool) (q : Option Ent) (e : Ent) : Bool :=
  gpB e.path && f (bd (upS e.path)) && !(e.dir && decide (0 < e.b.length)) && decide (e.b.length ≤ 2048) && (match q with | none => true | some x => decide (Pl.pc (bd x.path) (bd e.path) < 0))
def ahd (q : Option Ent) (e : Ent) : Bool := match q with | none => true | some x => decide (Pl.pc (bd x.path) (bd e.path) < 0)
theorem stepOk_eq (f : Pl.Bs → Bool) (q : Option Ent) (e : Ent) : stepOk f q e = (gpB e.path && f (bd (upS e.path)) && !(e.dir && decide (0 < e.b.length)) && decide (e.b.length ≤ 2048) && ahd q e) := rfl
theorem goodFrom_cons (f : Pl.Bs → Bool) (q : Option Ent) (e : Ent) (r : List Ent) : goodFrom f q (e :: r) = (stepOk f q e && goodFrom (fun p => if p = bd e.path then e.dir else f p) (some e) r) := rfl
/-- A tree may be. -/
def goodT (es : List Ent) : Bool := decide (es.length ≤ 40) && decide (cnt es ≤ 16384) && goodFrom (fun p => p.isEmpty) none es
def atM1 (es : List Ent) : Nat → Option Ent
  | 0 => none
  | k + 1 => es[k]?
def fk (es : List Ent) (k : Nat) : Pl.Bs → Bool := (es.take k).foldl (fun f e => fun p => if p = bd e.path then e.dir else f p) (fun p => p.isEmpty)
theorem fk_succ {es : List Ent} {k : Nat} {e : Ent} (h : es[k]? = some e) : fk es (k + 1) = fun p => if p = bd e.path then e.dir else fk es k p := by
  unfold fk
  rw [List.take_add_one, h]
  simp
theorem upS_size (p : ByteArray) : (upS p).size ≤ p.size := by
  unfold upS
  split
  · obtain ⟨a, b, e⟩ := snoc_of_ne (Pl.sp_ne p.data.toList)
    obtain ⟨h1, h2⟩ := lastIdx_spec e
    have hu : Pl.up p.data.toList = Pl.jo a := by rw [Pl.up, e, List.dropLast_concat]
    show (Pl.up p.data.toList).toArray.size ≤ p.data.size
    rw [hu, List.size_toArray, ← Array.length_toList]
    by_cases ha : a = []
    · subst ha; exact Nat.zero_le _
    · rw [h2 ha]; simp
  · exact Nat.zero_le _
theorem own_below {w w1 : World} {P : Program} {k : TypeId} {R : Value → Option (DataW U × List MemPlace)} {b n : Nat} {D : DataW U} (h : w.ownsMap P k R b n D) (hb : Below w.heap.size w w1) : w1.ownsMap P k R b n D := by
  have hlt := h.lt
  obtain ⟨es, clock, hh, F, hs, hD⟩ := h
  exact ⟨es, clock, (hb.block b hlt).trans hh, F, hs, hD⟩

theorem reads0 : Reads1 ((DataW.map [] : DataW U).put (.string []) (.lit (.bool true))) (fun p => p.isEmpty) := by
  have h0 : Reads1 (.map [] : DataW U) (fun _ => false) := ⟨⟨[], rfl⟩, fun p => rfl⟩
  have := h0.put [] true
  have e : (fun q : Pl.Bs => if q = [] then true else false) = fun p => p.isEmpty := by
    funext q
    cases q <;> simp
  rwa [e] at this

attribute [local go_sem ↓] Go.wp_at_zero Go.wp_at_succ
set_option maxRecDepth 100000 in
set_option maxHeartbeats 4000000 in
theorem treeGood_main (es : List Ent) (v : Value) (m : Int) (w : World) (h : TreeV w v es) (hn : es.length ≤ 40) (hc : cnt es ≤ 16384) (hz : ∀ e ∈ es, e.path.size ≤ 1048576) (hm : Mx m w) :
    Calls Tryd.prog 9 #[v] w fun x w' => x = .returned (.bool (goodT es)) ∧ Below w.heap.size w w' := by
  obtain ⟨u, rfl, hu⟩ := h
  have hmm := @run_makeMap Tryd.prog
  have HU := Lib.hid hu
  obtain ⟨A, c, rfl, hlc, hnone, hcell⟩ := hu
  have HC := Lib.hid hcell
  have HZ := Lib.hid hz
  clear hcell hnone hz
  go_enter Tryd.func9, Tryd.ntmps9
  go_wp2_with (first
    | (go_at_call 37; refine (count_any es _ _ (HU.out.below ((Below.refl _ _).alloc (Nat.le_refl _) _)) (by omega) (by omega)).mono ?_; rintro x w1 ⟨rfl, hb1⟩; have k1 := ((Bk.new w _ _).after hb1).cell)
    | ((refine list_insert _ rfl (.tmp 18) (.const (.string ⟨#[]⟩)) (.const (.bool true)) 70 rfl 9 4 law9 Tryd.underlying70 (plainElem Tryd.prog 4) w1.heap.size 0 _ rfl (World.ownsMap_made w1 _ _ _) (by unfold maxLen; omega) _ _ (.string []) rfl rfl (key9 ⟨#[]⟩ (by decide)) (.lit (.bool true)) [] (plainElem_bool Tryd.underlying4 true) ?_); intro w2 hown2 hg2; have BT := (((Bk.new w 25 #[.slice A es.length c]).after hb1).alloc (.map #[] 0)).grown hg2 (by have := hb1.size; simp at this; simp; omega); have k2 := BT.cell; clear k1))
  have hlt1 : w.heap.size < w1.heap.size := by have := hb1.size; simp at this; omega
  have hbw2 : Below w.heap.size w w2 := ((((Below.refl w.heap.size w).alloc (Nat.le_refl _) _).trans (hb1.mono (by simp))).alloc (by omega) _).grown hg2 (by simp; omega) (by intro k hk; injection hk with hk; omega)
  obtain ⟨mb, hmb⟩ : ∃ mb, mb = w1.heap.size := ⟨_, rfl⟩
  rw [← hmb] at hown2 hlt1 ⊢
  have HBT := Lib.hid BT
  have HOW := Lib.hid hown2
  clear hown2 hg2 hb1 BT hmb
  go_loopw [23] (fun i wr => ∃ k : Nat, k ≤ es.length ∧ i = .int .i64 k ∧ (∃ D, wr.ownsMap Tryd.prog 9 (plainElem Tryd.prog 4) mb (k + 1) D ∧ Reads1 D (fk es k)) ∧ Bk wr w.heap.size 25 #[.slice A es.length c] ∧ Below w.heap.size w wr ∧
      Hid (goodFrom (fun p => p.isEmpty) none es = goodFrom (fk es k) (atM1 es k) (es.drop k))) (fun i _ => es.length - (intOf i).toNat)
  case atStart => exact ⟨0, Nat.zero_le _, rfl, ⟨_, HOW.out, reads0⟩, HBT.out, hbw2, (rfl : goodFrom (fun p => p.isEmpty) none es = goodFrom (fk es 0) (atM1 es 0) (es.drop 0))⟩
  case round =>
    clear k2 HOW HBT hbw2
    obtain ⟨k, hk, rfl, ⟨D, hD, hR⟩, hBT, hb, HG⟩ := hrel
    by_cases hlt : k < es.length
    · obtain ⟨e, hke⟩ : ∃ e, es[k]? = some e := ⟨_, List.getElem?_eq_getElem hlt⟩
      obtain ⟨b, o, rfl, hcel⟩ := HC.out (by omega)
      obtain ⟨u, c0, c1, c2, hu⟩ := (hcel k e hke).below hb
      obtain ⟨B', cb, rfl, _⟩ := hu
      have hes := HZ.out e (List.mem_of_getElem? hke)
      have hmr : Mx m (wr.alloc (.cells #[.string e.path, .bool e.dir, .slice B' e.b.length cb] 30)) := (hm.below hb).below ((Below.refl _ _).alloc (Nat.le_refl _) _)
      have kT := hBT.cell
      have HE := Lib.hid hke
      have HK := Lib.hid hcel
      have HDD := Lib.hid hD
      have HRR := Lib.hid hR
      have HB := Lib.hid hBT
      clear hke hcel hD hR hBT
      go_wp2_with ((go_at_call 38; (with_reducible refine (up_any e.path m _ hes hmr).mono ?_); rintro x w3 ⟨rfl, hb3⟩))
      have kE : ∀ i, w3.cell? ⟨wr.heap.size, i, none⟩ = #[.string e.path, .bool e.dir, .slice B' e.b.length cb][i]? := ((Bk.new wr _ _).after hb3).cell
      have e0 : w3.cell? ⟨wr.heap.size, 0, none⟩ = some (.string e.path) := kE 0
      have e1 : w3.cell? ⟨wr.heap.size, 1, none⟩ = some (.bool e.dir) := kE 1
      have e2 : w3.cell? ⟨wr.heap.size, 2, none⟩ = some (.slice B' e.b.length cb) := kE 2
      have t0 : w3.cell? ⟨w.heap.size, 0, none⟩ = some (.slice (some ⟨b, o, none⟩) es.length c) := ((HB.out.alloc _).after hb3).cell 0
      have hus : (upS e.path).size ≤ 1048576 := Nat.le_trans (upS_size e.path) hes
      have L3 : ∀ n, (Instr.lookup 70 (.map (some mb)) (.string (upS e.path)) false).run Tryd.prog (w3.drewN n) = .ok (.bool (fk es k (bd (upS e.path)))) (w3.drewN n) := fun n =>
        lookup_bool (w := w3.drewN n) (own_below (HDD.out.alloc _) (below_drewN hb3 n)) HRR.out _ hus
      clear kE kT
      have fr : ∀ w4, Below w3.heap.size w3 w4 → Below w.heap.size w w4 := fun w4 h4 => hb.trans ((((Below.refl wr.heap.size wr).alloc (Nat.le_refl _) _).trans (hb3.mono (by simp))).mono hb.size |>.trans (h4.mono (by have h3 := hb3.size; simp at h3; have := hb.size; omega)))
      have FR := Lib.hid fr
      clear fr
      have HGE : Hid (goodFrom (fk es k) (atM1 es k) (es.drop k) = (stepOk (fk es k) (atM1 es k) e && goodFrom (fk es (k + 1)) (atM1 es (k + 1)) (es.drop (k + 1)))) := by
        have hd : es.drop k = e :: es.drop (k + 1) := by
          obtain ⟨hl, he⟩ := List.getElem?_eq_some_iff.1 HE.out
          rw [List.drop_eq_getElem_cons hl, he]
        have : goodFrom (fk es k) (atM1 es k) (es.drop k) = (stepOk (fk es k) (atM1 es k) e && goodFrom (fk es (k + 1)) (atM1 es (k + 1)) (es.drop (k + 1))) := by
          rw [hd, goodFrom_cons, fk_succ HE.out]
          show _ = (_ && goodFrom _ es[k]? _)
          rw [HE.out]
        exact this
      have HGT : Hid (stepOk (fk es k) (atM1 es k) e = false → goodT es = false) := by
        have : stepOk (fk es k) (atM1 es k) e = false → goodT es = false := fun h => by
          rw [goodT, decide_eq_true hn, decide_eq_true hc, HG.out, HGE.out, h]
          rfl
        exact this
      cases hgp : gpB e.path with
      | false =>
        have F : Hid (goodT es = false) := HGT.out (by rw [stepOk_eq, hgp]; rfl)
        go_quiet (fail)
        go_wp2
        go_ret
        exact ⟨ret_bool F.out.symm, below_drewN (FR.out _ (Below.refl _ _)) _⟩
      | true =>
        cases hfu : fk es k (bd (upS e.path)) with
        | false =>
          have F : Hid (goodT es = false) := HGT.out (by rw [stepOk_eq, hfu]; simp)
          rw [hfu] at L3
          go_quiet (fail)
          go_wp2
          go_ret
          exact ⟨ret_bool F.out.symm, below_drewN (FR.out _ (Below.refl _ _)) _⟩
        | true =>
          rw [hfu] at L3
          by_cases hlen : 2048 < e.b.length
          · have F : Hid (goodT es = false) := HGT.out (by rw [stepOk_eq, decide_eq_false (show ¬ e.b.length ≤ 2048 by omega)]; simp)
            have q1 : decide ((2048 : Int) < (e.b.length : Int)) = true := decide_eq_true (by omega)
            have q2 : decide ((0 : Int) < (e.b.length : Int)) = true := decide_eq_true (by omega)
            have q3 : decide (0 < e.b.length) = true := decide_eq_true (by omega)
            cases hdir : e.dir with
            | true => 
              rw [hdir] at e1
              go_quiet (fail)
              go_wp2
              go_ret
              exact ⟨ret_bool F.out.symm, below_drewN (FR.out _ (Below.refl _ _)) _⟩
            | false =>
              rw [hdir] at e1
              go_quiet (fail)
              go_wp2
              go_ret
              exact ⟨ret_bool F.out.symm, below_drewN (FR.out _ (Below.refl _ _)) _⟩
          · have q1 : decide ((2048 : Int) < (e.b.length : Int)) = false := decide_eq_false (by omega)
            by_cases hdl : e.dir = true ∧ 0 < e.b.length
            · obtain ⟨hdir, hpos⟩ := hdl
              have F : Hid (goodT es = false) := HGT.out (by rw [stepOk_eq, hdir, decide_eq_true hpos]; simp)
              have q2 : decide ((0 : Int) < (e.b.length : Int)) = true := decide_eq_true (by omega)
              have q3 : decide (0 < e.b.length) = true := decide_eq_true (by omega)
              rw [hdir] at e1
              go_quiet (fail)
              go_wp2
              go_ret
              exact ⟨ret_bool F.out.symm, below_drewN (FR.out _ (Below.refl _ _)) _⟩
            · have hdz : e.dir = true → e.b.length = 0 := fun h => by
                rcases Nat.eq_zero_or_pos e.b.length with h0 | h0
                · exact h0
                · exact absurd ⟨h, h0⟩ hdl
              have SO : Hid (stepOk (fk es k) (atM1 es k) e = ahd (atM1 es k) e) := by
                have : stepOk (fk es k) (atM1 es k) e = ahd (atM1 es k) e := by
                  rw [stepOk_eq, hgp, hfu, decide_eq_true (show e.b.length ≤ 2048 by omega)]
                  cases hdir : e.dir with
                  | true => rw [decide_eq_false (show ¬ 0 < e.b.length by rw [hdz hdir]; omega)]; rfl
                  | false => rfl
                exact this
              have RD : Hid (Reads1 (D.put (.string (bd e.path)) (.lit (.bool e.dir))) (fk es (k + 1))) := by
                have : Reads1 (D.put (.string (bd e.path)) (.lit (.bool e.dir))) (fk es (k + 1)) := by rw [fk_succ HE.out]; exact HRR.out.put _ _
                exact this
              have HDZ := Lib.hid hdz
              clear hdz hdl
              by_cases hk0 : k = 0
              · have G2 : Hid (goodFrom (fun p => p.isEmpty) none es = goodFrom (fk es (k + 1)) (atM1 es (k + 1)) (es.drop (k + 1))) := by
                  have : goodFrom (fun p => p.isEmpty) none es = goodFrom (fk es (k + 1)) (atM1 es (k + 1)) (es.drop (k + 1)) := by
                    rw [HG.out, HGE.out, SO.out, hk0]; rfl
                  exact this
                have r1 : decide ((0 : Int) < (k : Int)) = false := decide_eq_false (by omega)
                have r2 : decide (0 < k) = false := decide_eq_false (by omega)
                rcases Bool.eq_false_or_eq_true e.dir with hdir | hdir
                · have q2 : e.b.length = 0 := HDZ.out hdir
                  rw [hdir] at e1
                  go_quiet (fail)
                  go_wp2_with ((at_mapUpdate; refine wpList_mapUpdate_own _ rfl _ _ _ 70 rfl 9 4 law9 Tryd.underlying70 (plainElem Tryd.prog 4) mb (k + 1) D rfl (own_below (HDD.out.alloc _) (below_drewN hb3 _)) (by unfold maxLen; omega) _ _ (.string (bd e.path)) rfl rfl (key9 e.path hes) (.lit (.bool true)) [] (plainElem_bool Tryd.underlying4 true) ?_); intro w5 hown5 hg5)
                  go_roundw
                  case rel => exact ⟨k + 1, hlt, by go_num, ⟨_, hown5, by have := RD.out; rw [hdir] at this; exact this⟩, (((HB.out.alloc _).after hb3).drewN _).grown hg5 (by simp; omega), (below_drewN (FR.out _ (Below.refl _ _)) _).grown hg5 (by have := hb3.size; have := hb.size; simp at *; omega) (by intro k hk; injection hk with hk; omega), G2⟩
                  case measure => simp [intOf]; omega
                · rw [hdir] at e1
                  go_quiet (fail)
                  go_wp2_with ((at_mapUpdate; refine wpList_mapUpdate_own _ rfl _ _ _ 70 rfl 9 4 law9 Tryd.underlying70 (plainElem Tryd.prog 4) mb (k + 1) D rfl (own_below (HDD.out.alloc _) (below_drewN hb3 _)) (by unfold maxLen; omega) _ _ (.string (bd e.path)) rfl rfl (key9 e.path hes) (.lit (.bool false)) [] (plainElem_bool Tryd.underlying4 false) ?_); intro w5 hown5 hg5)
                  go_roundw
                  case rel => exact ⟨k + 1, hlt, by go_num, ⟨_, hown5, by have := RD.out; rw [hdir] at this; exact this⟩, (((HB.out.alloc _).after hb3).drewN _).grown hg5 (by simp; omega), (below_drewN (FR.out _ (Below.refl _ _)) _).grown hg5 (by have := hb3.size; have := hb.size; simp at *; omega) (by intro k hk; injection hk with hk; omega), G2⟩
                  case measure => simp [intOf]; omega
              · obtain ⟨q, hq⟩ : ∃ q, es[k - 1]? = some q := ⟨_, List.getElem?_eq_getElem (by omega)⟩
                obtain ⟨_, cq, _, _, _⟩ := (((HK.out (k - 1) q hq).below hb).below ((Below.refl _ _).alloc (Nat.le_refl _) (.cells #[.string e.path, .bool e.dir, .slice B' e.b.length cb] 30))).below hb3
                have hqs := HZ.out q (List.mem_of_getElem? hq)
                have AH : Hid (ahd (atM1 es k) e = decide (Pl.pc (bd q.path) (bd e.path) < 0)) := by
                  have : ahd (atM1 es k) e = decide (Pl.pc (bd q.path) (bd e.path) < 0) := by
                    cases k with
                    | zero => omega
                    | succ j => rw [atM1]; rw [Nat.add_sub_cancel] at hq; rw [hq]; rfl
                  exact this
                clear hq
                have r1 : decide ((0 : Int) < (k : Int)) = true := decide_eq_true (by omega)
                have r2 : decide (0 < k) = true := decide_eq_true (by omega)
                have r3 : IntKind.i64.wrap ((k : Int) - 1) = (k : Int) - 1 := by rw [IntKind.wrap_i64]; omega
                have r4 : ((k : Int) - 1).toNat = k - 1 := by omega
                have r5 : (0 : Int) ≤ (k : Int) - 1 := by omega
                have r6 : (1 : Int) ≤ (k : Int) := by omega
                have r7 : (k : Int) - 1 < (es.length : Int) := by omega
                have hm3 : Mx m w3.drew := hmr.below hb3.drew
                have HM := Lib.hid hm3
                have L4 := L3 0
                have L5 : ∀ w4, Below w3.heap.size w3 w4 → (Instr.lookup 70 (.map (some mb)) (.string (upS e.path)) false).run Tryd.prog w4 = .ok (.bool true) w4 := fun w4 h4 => by
                  rw [lookup_bool (own_below (own_below (HDD.out.alloc _) hb3) h4) HRR.out _ hus, hfu]
                have HL := Lib.hid L5
                clear L3 L4 L5 hm3 hmr
                rcases Bool.eq_false_or_eq_true e.dir with hdir | hdir
                · have q2 : e.b.length = 0 := HDZ.out hdir
                  rw [hdir] at e1
                  have LD := HL.out w3.drew (Below.refl _ _).drew
                  go_still_tail 37, (by kernel_rfl)
                  go_wp2_with (first
                    | (go_at_call 39; refine (cmp_any q.path e.path m _ hqs hes HM.out).mono ?_; rintro x w4 ⟨rfl, hb4⟩; have hb34 : Below w3.heap.size w3 w4 := (Below.refl _ w3).drew.trans hb4; have g0 := cell_below hb4 e0; have g1 := cell_below hb4 e1; clear e0 e1 e2 t0 cq LD)
                    | ((at_mapUpdate; refine wpList_mapUpdate_own _ rfl _ _ _ 70 rfl 9 4 law9 Tryd.underlying70 (plainElem Tryd.prog 4) mb (k + 1) D rfl (own_below (own_below (HDD.out.alloc _) hb3) hb34) (by unfold maxLen; omega) _ _ (.string (bd e.path)) rfl rfl (key9 e.path hes) (.lit (.bool true)) [] (plainElem_bool Tryd.underlying4 true) ?_); intro w5 hown5 hg5))
                  · have F : Hid (goodT es = false) := HGT.out (by rw [SO.out, AH.out]; simp; assumption)
                    go_ret
                    exact ⟨ret_bool F.out.symm, FR.out _ hb34⟩
                  · have G2 : Hid (goodFrom (fun p => p.isEmpty) none es = goodFrom (fk es (k + 1)) (atM1 es (k + 1)) (es.drop (k + 1))) := by
                      have hlt0 : Pl.pc (bd q.path) (bd e.path) < 0 := by first | assumption | omega
                      have : goodFrom (fun p => p.isEmpty) none es = goodFrom (fk es (k + 1)) (atM1 es (k + 1)) (es.drop (k + 1)) := by
                        rw [HG.out, HGE.out, SO.out, AH.out, decide_eq_true hlt0]; rfl
                      exact this
                    go_roundw
                    case rel => exact ⟨k + 1, hlt, by go_num, ⟨_, hown5, by have := RD.out; rw [hdir] at this; exact this⟩, ((((HB.out.alloc _).after hb3).after hb34)).grown hg5 (by simp; omega), (FR.out _ hb34).grown hg5 (by have := hb34.size; have := hb3.size; have := hb.size; simp at *; omega) (by intro k hk; injection hk with hk; omega), G2⟩
                    case measure => simp [intOf]; omega
                · rw [hdir] at e1
                  have LD := HL.out w3.drew (Below.refl _ _).drew
                  go_still_tail 37, (by kernel_rfl)
                  go_wp2_with (first
                    | (go_at_call 39; refine (cmp_any q.path e.path m _ hqs hes HM.out).mono ?_; rintro x w4 ⟨rfl, hb4⟩; have hb34 : Below w3.heap.size w3 w4 := (Below.refl _ w3).drew.trans hb4; have g0 := cell_below hb4 e0; have g1 := cell_below hb4 e1; clear e0 e1 e2 t0 cq LD)
                    | ((at_mapUpdate; refine wpList_mapUpdate_own _ rfl _ _ _ 70 rfl 9 4 law9 Tryd.underlying70 (plainElem Tryd.prog 4) mb (k + 1) D rfl (own_below (own_below (HDD.out.alloc _) hb3) hb34) (by unfold maxLen; omega) _ _ (.string (bd e.path)) rfl rfl (key9 e.path hes) (.lit (.bool false)) [] (plainElem_bool Tryd.underlying4 false) ?_); intro w5 hown5 hg5))
                  · have F : Hid (goodT es = false) := HGT.out (by rw [SO.out, AH.out]; simp; assumption)
                    go_ret
                    exact ⟨ret_bool F.out.symm, FR.out _ hb34⟩
                  · have G2 : Hid (goodFrom (fun p => p.isEmpty) none es = goodFrom (fk es (k + 1)) (atM1 es (k + 1)) (es.drop (k + 1))) := by
                      have hlt0 : Pl.pc (bd q.path) (bd e.path) < 0 := by first | assumption | omega
                      have : goodFrom (fun p => p.isEmpty) none es = goodFrom (fk es (k + 1)) (atM1 es (k + 1)) (es.drop (k + 1)) := by
                        rw [HG.out, HGE.out, SO.out, AH.out, decide_eq_true hlt0]; rfl
                      exact this
                    go_roundw
                    case rel => exact ⟨k + 1, hlt, by go_num, ⟨_, hown5, by have := RD.out; rw [hdir] at this; exact this⟩, ((((HB.out.alloc _).after hb3).after hb34)).grown hg5 (by simp; omega), (FR.out _ hb34).grown hg5 (by have := hb34.size; have := hb3.size; have := hb.size; simp at *; omega) (by intro k hk; injection hk with hk; omega), G2⟩
                    case measure => simp [intOf]; omega
    · obtain rfl : es.length = k := by omega
      have F : Hid (goodT es = true) := by
        have : goodT es = true := by
          rw [goodT, decide_eq_true hn, decide_eq_true hc, HG.out, List.drop_of_length_le (Nat.le_refl _)]
          rfl
        exact this
      have kT := hBT.cell
      go_wp2
      go_ret
      exact ⟨ret_bool F.out.symm, hb⟩

set_option maxRecDepth 100000 in
theorem treeGood_any (es : List Ent) (v : Value) (m : Int) (w : World) (h : TreeV w v es) (hn : es.length ≤ 1048576) (hc : cnt es ≤ 1048576) (hz : ∀ e ∈ es, e.path.size ≤ 1048576) (hm : Mx m w) :
    Calls Tryd.prog 9 #[v] w fun x w' => x = .returned (.bool (goodT es)) ∧ Below w.heap.size w w' := by
  by_cases h40 : es.length ≤ 40
  · by_cases h16 : cnt es ≤ 16384
    · exact treeGood_main es v m w h h40 h16 hz hm
    · have F : Hid (goodT es = false) := by
        have : goodT es = false := by rw [goodT, decide_eq_false h16]; simp
        exact this
      obtain ⟨u, rfl, hu⟩ := h
      have HU := Lib.hid hu
      obtain ⟨A, c, rfl, hlc, hnone, hcell⟩ := hu
      clear hcell hnone hz
      go_enter Tryd.func9, Tryd.ntmps9
      go_wp2_with (go_at_call 37; refine (count_any es _ _ (HU.out.below ((Below.refl _ _).alloc (Nat.le_refl _) _)) (by omega) (by omega)).mono ?_; rintro x w1 ⟨rfl, hb1⟩)
      go_ret
      exact ⟨ret_bool F.out.symm, ((Below.refl w.heap.size w).alloc (Nat.le_refl _) _).trans (hb1.mono (by simp))⟩
  · have F : Hid (goodT es = false) := by
      have : goodT es = false := by rw [goodT, decide_eq_false h40]; simp
      exact this
    obtain ⟨u, rfl, hu⟩ := h
    obtain ⟨A, c, rfl, hlc, hnone, hcell⟩ := hu
    clear hcell hnone hz
    have h41 : (40 : Int) < (es.length : Int) := by omega
    go_enter Tryd.func9, Tryd.ntmps9
    go_wp2_with fail
    go_ret
    exact ⟨ret_bool F.out.symm, (Below.refl w.heap.size w).alloc (Nat.le_refl _) _⟩
end Go.Proofs.YtpfmenepgejgdaaDoor
