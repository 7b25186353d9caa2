/-
  tallymanlaw9.DiskQuota: the walk. Own work.
-/
import Derived.Test.YtpfmenepgejgdaaDoorAwake9
namespace Go.Proofs.YtpfmenepgejgdaaDoor
open Go.RowKit

/-! ### changes that are given -/
def ChgAt (w : World) (b o : Nat) (x : Chg) : Prop := ∃ u, w.cell? ⟨b, o, none⟩ = some (.int .i64 x.op) ∧ w.cell? ⟨b, o + 1, none⟩ = some (.string x.path) ∧ w.cell? ⟨b, o + 2, none⟩ = some (.string x.to_) ∧ w.cell? ⟨b, o + 3, none⟩ = some u ∧ Byt w u x.b
theorem ChgAt.below {w w1 : World} {b o : Nat} {x : Chg} (h : ChgAt w b o x) (hb : Below w.heap.size w w1) : ChgAt w1 b o x := by
  obtain ⟨u, c0, c1, c2, c3, hu⟩ := h
  exact ⟨u, cell_below hb c0, cell_below hb c1, cell_below hb c2, cell_below hb c3, hu.below hb⟩
def Chgs (w : World) (v : Value) (l : List Chg) : Prop :=
  ∃ A c, v = .slice A l.length c ∧ l.length ≤ c ∧ (0 < l.length → ∃ b o, A = some ⟨b, o, none⟩ ∧ ∀ j x, l[j]? = some x → ChgAt w b (o + j * 4) x)
def QInv (q : Int) (k : Nat) (d : Dsk) : Prop :=
  d.quota = q ∧ d.off = false ∧ d.fuse = 0 ∧ goodT d.now = true ∧ goodT d.last = true ∧ d.waits.length ≤ k ∧ 0 ≤ d.count ∧ d.count ≤ k ∧ bytesE d.now ≤ q
theorem QInv.good {q : Int} {k : Nat} {d : Dsk} (h : QInv q k d) (hk : k ≤ 40) : DGood d := by
  obtain ⟨h1, h2, h3, h4, h5, h6, h7, h8, h9⟩ := h
  exact ⟨h4, h5, by omega, h7, by omega⟩
theorem QInv.step {q : Int} {k : Nat} {d : Dsk} (h : QInv q k d) (c : Chg) :
    QInv q (k + 1) (doE d c).2 ∧ (((doE d c).1 = 0 ∧ (doE d c).2.count = d.count + 1) ∨ ((doE d c).1 ≠ 0 ∧ (doE d c).2.count = d.count)) := by
  obtain ⟨h1, h2, h3, h4, h5, h6, h7, h8, h9⟩ := h
  unfold doE
  by_cases h0 : (doneE d.now c).1 = 0
  · rw [if_pos h0]
    by_cases hf : d.quota < bytesE (doneE d.now c).2 ∧ bytesE d.now < bytesE (doneE d.now c).2
    · rw [if_pos hf]
      exact ⟨⟨h1, h2, h3, h4, h5, (by dsimp only; omega), h7, (by dsimp only; omega), h9⟩, .inr ⟨(by simp), rfl⟩⟩
    · rw [if_neg hf]
      refine ⟨⟨h1, h2, h3, done_good h0, h5, ?_, ?_, ?_, ?_⟩, .inl ⟨rfl, rfl⟩⟩
      · simp only [doneD, List.length_append, List.length_singleton]; omega
      · simp only [doneD]; omega
      · simp only [doneD]; omega
      · simp only [doneD]; omega
  · rw [if_neg h0]
    exact ⟨⟨h1, h2, h3, h4, h5, (by dsimp only; omega), h7, (by dsimp only; omega), h9⟩, .inr ⟨h0, rfl⟩⟩
theorem QInv.zero {q : Int} (hq : 0 ≤ q) : QInv q 0 (dsk0 [] q) := by
  refine ⟨rfl, rfl, rfl, by kernel_rfl, by kernel_rfl, Nat.le_refl _, Int.le_refl _, Int.le_refl _, ?_⟩
  rw [show bytesE (dsk0 [] q).now = 0 by kernel_rfl]
  exact hq

set_option maxHeartbeats 4000000 in
set_option maxRecDepth 100000 in
theorem quota_any (q : Int) (l : List Chg) (v : Value) (m : Int) (w : World) (h : Chgs w v l) (hz : ∀ c ∈ l, c.path.size ≤ 1048576 ∧ c.to_.size ≤ 1048576) (hm : Mx m w) :
    Calls Tryd.prog 6 #[.int .i64 q, v] w fun x w' => x = .returned (.bool true) ∧ Below w.heap.size w w' := by
  have hmb : 0 < w.heap.size := World.block_lt_of_cell? w ⟨0, 0, none⟩ hm
  have C0 := Lib.hid (awake9_any m w hm)
  have C1 := Lib.hid (fun W (hb : Below w.heap.size w W) => dnew_any w.heap.size [] q (.agg #[.slice none 0 0]) m W hb.size (TreeV.nil W) (by simp) (by simp [cnt]) (by simp) (hm.below hb))
  obtain ⟨A, c, rfl, hlc, hcell⟩ := h
  have HC := Lib.hid hcell
  clear hcell
  have hfd := fld
  cases hno : newOk [] q with
  | false =>
    have NO : Hid (newOk [] q = false) := hno
    clear hno
    go_enter Tryd.func6, Tryd.ntmps6
    go_wp2_with (first
      | (go_at_call 26; (with_reducible refine C0.out.mono ?_); rintro x w1 ⟨rfl, hb1⟩)
      | (go_at_call 27; (with_reducible refine (C1.out _ hb1).mono ?_); intro x w2 hx; rw [NewPost, NO.out, if_neg (by simp)] at hx; obtain ⟨rfl, hb2⟩ := hx; have hb12 := hb1.trans (hb2.mono hb1.size))
      | fail)
    go_ret
    exact ⟨rfl, hb12⟩
  | true =>
    have NO : Hid (newOk [] q = true) := hno
    have hq : 0 ≤ q := by
      simp only [newOk, Bool.and_eq_true, decide_eq_true_eq] at hno
      exact hno.1.2
    clear hno
    by_cases hl : l.length ≤ 40
    · go_enter Tryd.func6, Tryd.ntmps6
      go_wp2_with (first
        | (go_at_call 26; (with_reducible refine C0.out.mono ?_); rintro x w1 ⟨rfl, hb1⟩)
        | (go_at_call 27; (with_reducible refine (C1.out _ hb1).mono ?_); intro x w2 hx; rw [NewPost, NO.out, if_pos rfl] at hx; obtain ⟨b, rfl, hd, hbb, hb2⟩ := hx; have hb12 := hb1.trans (hb2.mono hb1.size))
        | fail)
      go_loopw [7] (fun i wr => ∃ k : Nat, k ≤ l.length ∧ i = .int .i64 k ∧ Below w.heap.size w wr ∧ ∃ d, QInv q k d ∧ DiskAt wr w.heap.size b d) (fun i _ => l.length - (intOf i).toNat)
      case atStart => exact ⟨0, Nat.zero_le _, rfl, hb12, _, QInv.zero hq, hd⟩
      case round =>
        replace hbb : w.heap.size ≤ b := Nat.le_trans hb1.size hbb
        obtain ⟨k, hk, rfl, hb, d, hQ, hD⟩ := hrel
        by_cases hlt : k < l.length
        · obtain ⟨x, hkx⟩ : ∃ x, l[k]? = some x := ⟨_, List.getElem?_eq_getElem hlt⟩
          obtain ⟨ba, o, rfl, hq2⟩ := HC.out (by omega)
          obtain ⟨u, c0, c1, c2, c3, hu⟩ := (hq2 k x hkx).below hb
          have HU := Lib.hid hu
          obtain ⟨Au, cu, rfl, _⟩ := hu
          obtain ⟨hz1, hz2⟩ := hz x (List.mem_of_getElem? hkx)
          by_cases hxb : x.b.length ≤ 2100
          · have CDo := Lib.hid (do0_any w.heap.size b d x (.agg #[.int .i64 x.op, .string x.path, .string x.to_, .slice Au x.b.length cu]) m wr hD (.inl (by rw [hQ.2.2.1]; exact Int.le_refl _)) ⟨_, rfl, HU.out⟩ hb.size hmb (hQ.good (by omega)) ⟨hz1, hz2, by omega⟩ (hm.below hb))
            rw [hQ.2.1, if_neg (by simp)] at CDo
            have hst := hQ.step x
            obtain ⟨r, hr⟩ : ∃ r, r = doE d x := ⟨_, rfl⟩
            rw [← hr] at CDo hst
            clear hr
            obtain ⟨hqs, hst⟩ := hst
            have hgn := hqs.2.2.2.1
            have hlen1 : r.2.now.length ≤ 1048576 := by have := (goodT_len hgn).1; omega
            have hlen2 : cnt r.2.now ≤ 1048576 := by have := (goodT_len hgn).2; omega
            obtain ⟨n1, hn1⟩ : ∃ n, n = bytesE r.2.now := ⟨_, rfl⟩
            have CB : Hid (∀ v W, Below w.heap.size w W → TreeV W v r.2.now → Calls Tryd.prog 10 #[v] W fun x w' => x = .returned (.int .i64 n1) ∧ Below W.heap.size W w') := Lib.hid (fun v W hb h => by rw [hn1]; exact treeBytes_any r.2.now v m W h hlen1 hlen2 (good_sizes hgn) (hm.below hb))
            have CG : Hid (∀ v W, Below w.heap.size w W → TreeV W v r.2.now → Calls Tryd.prog 9 #[v] W fun x w' => x = .returned (.bool true) ∧ Below W.heap.size W w') := Lib.hid (fun v W hb h => by rw [← hgn]; exact treeGood_any r.2.now v m W h hlen1 hlen2 (good_sizes hgn) (hm.below hb))
            have hnq : ¬ q < n1 := by have := hqs.2.2.2.2.2.2.2.2; omega
            have QS := Lib.hid hqs
            have HD0 := Lib.hid hD
            clear hn1 hqs hgn hQ hD
            rcases hst with ⟨he, hc⟩ | ⟨he, hc⟩
            · have HE : Hid (r.1 = 0) := Lib.hid he
              have HN := Lib.hid hc
              clear he hc
              go_wp2_with (first
                | (go_at_call 28; (with_reducible refine (dcount_any w.heap.size b d _ HD0.out).mono ?_); rintro x w3 ⟨rfl, rfl⟩)
                | (go_at_call 29; (with_reducible refine CDo.out.mono ?_); rintro x w4 ⟨rfl, hd4, hf4⟩; rw [HE.out]; have HD4 := Lib.hid hd4; have F4 := Lib.hid (hb.trans (hf4.below hbb hb.size)); clear hd4 hf4 HD0)
                | (go_at_call 30; (with_reducible refine (dnow_any w.heap.size b r.2 _ HD4.out hlen1 hlen2).mono ?_); rintro x w5 ⟨v5, rfl, ht5, hb5⟩; have T5 := Lib.hid ht5; obtain ⟨A5, c5, rfl⟩ := tpost_form ht5; have HD5 := Lib.hid (HD4.out.below hb5); have F5 := Lib.hid (F4.out.trans (hb5.mono F4.out.size)); clear HD4 F4 ht5 hb5)
                | (go_at_call 10; (with_reducible refine (CB.out _ _ F5.out T5.out).mono ?_); rintro x w6 ⟨rfl, hb6⟩; have HD6 := Lib.hid (HD5.out.below hb6); have F6 := Lib.hid (F5.out.trans (hb6.mono F5.out.size)); clear HD5 F5 T5 hb6)
                | (go_at_call 28; (with_reducible refine (dcount_any w.heap.size b r.2 _ HD6.out).mono ?_); rintro x w3 ⟨rfl, rfl⟩; rw [HN.out])
                | (go_at_call 30; (with_reducible refine (dnow_any w.heap.size b r.2 _ HD6.out hlen1 hlen2).mono ?_); rintro x w7 ⟨v7, rfl, ht7, hb7⟩; have T7 := Lib.hid ht7; obtain ⟨A7, c7, rfl⟩ := tpost_form ht7; have HD7 := Lib.hid (HD6.out.below hb7); have F7 := Lib.hid (F6.out.trans (hb7.mono F6.out.size)); clear HD6 F6 ht7 hb7)
                | (go_at_call 9; (with_reducible refine (CG.out _ _ F7.out T7.out).mono ?_); rintro x w8 ⟨rfl, hb8⟩; have HD8 := Lib.hid (HD7.out.below hb8); have F8 := Lib.hid (F7.out.trans (hb8.mono F7.out.size)); clear HD7 F7 T7 hb8)
                | fail)
              go_roundw
              case rel => exact ⟨k + 1, hlt, by go_num, F8.out, r.2, QS.out, HD8.out⟩
              case measure => simp [intOf]; omega
            · have HN := Lib.hid hc
              have he2 : (r.1 == 0) = false := by simpa using he
              clear hc
              go_wp2_with (first
                | (go_at_call 28; (with_reducible refine (dcount_any w.heap.size b d _ HD0.out).mono ?_); rintro x w3 ⟨rfl, rfl⟩)
                | (go_at_call 29; (with_reducible refine CDo.out.mono ?_); rintro x w4 ⟨rfl, hd4, hf4⟩; have HD4 := Lib.hid hd4; have F4 := Lib.hid (hb.trans (hf4.below hbb hb.size)); clear hd4 hf4 HD0)
                | (go_at_call 30; (with_reducible refine (dnow_any w.heap.size b r.2 _ HD4.out hlen1 hlen2).mono ?_); rintro x w5 ⟨v5, rfl, ht5, hb5⟩; have T5 := Lib.hid ht5; obtain ⟨A5, c5, rfl⟩ := tpost_form ht5; have HD5 := Lib.hid (HD4.out.below hb5); have F5 := Lib.hid (F4.out.trans (hb5.mono F4.out.size)); clear HD4 F4 ht5 hb5)
                | (go_at_call 10; (with_reducible refine (CB.out _ _ F5.out T5.out).mono ?_); rintro x w6 ⟨rfl, hb6⟩; have HD6 := Lib.hid (HD5.out.below hb6); have F6 := Lib.hid (F5.out.trans (hb6.mono F5.out.size)); clear HD5 F5 T5 hb6)
                | (go_at_call 28; (with_reducible refine (dcount_any w.heap.size b r.2 _ HD6.out).mono ?_); rintro x w3 ⟨rfl, rfl⟩; rw [HN.out])
                | (go_at_call 30; (with_reducible refine (dnow_any w.heap.size b r.2 _ HD6.out hlen1 hlen2).mono ?_); rintro x w7 ⟨v7, rfl, ht7, hb7⟩; have T7 := Lib.hid ht7; obtain ⟨A7, c7, rfl⟩ := tpost_form ht7; have HD7 := Lib.hid (HD6.out.below hb7); have F7 := Lib.hid (F6.out.trans (hb7.mono F6.out.size)); clear HD6 F6 ht7 hb7)
                | (go_at_call 9; (with_reducible refine (CG.out _ _ F7.out T7.out).mono ?_); rintro x w8 ⟨rfl, hb8⟩; have HD8 := Lib.hid (HD7.out.below hb8); have F8 := Lib.hid (F7.out.trans (hb8.mono F7.out.size)); clear HD7 F7 T7 hb8)
                | fail)
              go_roundw
              case rel => exact ⟨k + 1, hlt, by go_num, F8.out, r.2, QS.out, HD8.out⟩
              case measure => simp [intOf]; omega
          · have HB := Lib.hid hb
            clear hQ hD hq2 hz1 hz2 hb
            go_wp2_with fail
            go_ret
            exact ⟨rfl, HB.out⟩
        · obtain rfl : l.length = k := by omega
          go_wp2_with fail
          go_ret
          exact ⟨rfl, hb⟩
    · go_enter Tryd.func6, Tryd.ntmps6
      go_wp2_with (first
        | (go_at_call 26; (with_reducible refine C0.out.mono ?_); rintro x w1 ⟨rfl, hb1⟩)
        | (go_at_call 27; (with_reducible refine (C1.out _ hb1).mono ?_); intro x w2 hx; rw [NewPost, NO.out, if_pos rfl] at hx; obtain ⟨b, rfl, hd, hbb, hb2⟩ := hx; have hb12 := hb1.trans (hb2.mono hb1.size))
        | fail)
      go_ret
      exact ⟨rfl, hb12⟩
end Go.Proofs.YtpfmenepgejgdaaDoor
