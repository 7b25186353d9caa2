/-
  tallymanlaw9.awake. Own work.
-/
import Derived.Test.YtpfmenepgejgdaaDoorDo2
import Derived.Test.YtpfmenepgejgdaaDoorCrash
import Derived.Test.YtpfmenepgejgdaaDoorAwake
namespace Go.Proofs.YtpfmenepgejgdaaDoor
open Go.RowKit

theorem conv_2 (x y : Int) (W : World) : (convert 28 28 (.slice (some ⟨W.heap.size, 0, none⟩) 2 2)).run Tryd.prog (W.alloc (.cells #[.int .u8 x, .int .u8 y] 5)) = .ok (.slice (some ⟨W.heap.size, 0, none⟩) 2 2) (W.alloc (.cells #[.int .u8 x, .int .u8 y] 5 (2, 3))) :=
  Lib.run_convert_bytes_const (P := Tryd.prog) W 28 5 #[.int .u8 x, .int .u8 y] 2 2 Tryd.underlying28 Tryd.underlying5
theorem byt_2 (x y : UInt8) (W : World) : Byt (W.alloc (.cells #[.int .u8 x.toNat, .int .u8 y.toNat] 5 (2, 3))) (.slice (some ⟨W.heap.size, 0, none⟩) 2 2) [x, y] := by
  refine ⟨some ⟨W.heap.size, 0, none⟩, 2, rfl, by simp, (fun e => by cases e), fun _ => ⟨W.heap.size, 0, rfl, fun j z hj => ?_⟩⟩
  rw [cell_of_row _ W.heap.size (0 + j) #[.int .u8 x.toNat, .int .u8 y.toNat] 5 (2, 3) (heap_alloc_new W _)]
  match j, hj with
  | 0, hj => simp at hj; subst hj; rfl
  | 1, hj => simp at hj; subst hj; rfl
  | j + 2, hj => simp at hj

theorem fld (A : Option Addr) (n c : Nat) (w : World) : (Instr.field 25 (.agg #[.slice A n c]) 0).run Tryd.prog w = .ok (.slice A n c) w := by kernel_rfl
def aw_c : Chg := ⟨1, ⟨#[97]⟩, ⟨#[]⟩, [120, 121]⟩
theorem aw_v (w1 : World) : ChgV (w1.alloc (.cells #[.int .u8 120, .int .u8 121] 5 (2, 3))) (.agg #[.int .i64 1, .string ⟨#[97]⟩, .string ⟨#[]⟩, .slice (some ⟨w1.heap.size, 0, none⟩) 2 2]) aw_c := ⟨_, rfl, byt_2 120 121 w1⟩
def aw_d : Dsk := ⟨99, [⟨⟨#[97]⟩, false, [120, 121]⟩], [], [aw_c], false, 1, 0, [], 0⟩
def aw_z : Dsk := ⟨99, [], [], [], true, 1, 0, [], 0⟩
theorem aw_do : doE (dsk0 [] 99) aw_c = (0, aw_d) := by kernel_rfl
theorem aw_cr : crashE aw_d [] (-1) = aw_z := by kernel_rfl
theorem aw_new : newOk [] 99 = true := by kernel_rfl
theorem aw_good : DGood (dsk0 [] 99) ∧ DGood aw_d := ⟨⟨by kernel_rfl, by kernel_rfl, by decide, by decide, by decide⟩, ⟨by kernel_rfl, by kernel_rfl, by decide, by decide, by decide⟩⟩
theorem aw_small : CSmall aw_c := ⟨by decide, by decide, by decide⟩
theorem aw_ws : WSmall aw_d := fun c h => by
  have : c = aw_c := by simpa [aw_d] using h
  rw [this]; exact aw_small

theorem beg0 {base b : Nat} {d : Dsk} {w : World} (h : DiskAt w base b d) (hf : d.fuse ≤ 0 ∨ d.off = true) :
    ∀ W, Below w.heap.size w W → Calls Tryd.prog 61 #[.pointer (some ⟨b, 0, none⟩)] W (BegPost base b d W) := fun W hb =>
  (begin0_any base b d W (h.below hb) hf).mono fun x w' ⟨h1, h2⟩ => by
    subst h2
    exact ⟨h1, h.below hb, grown_refl _ _⟩
/-- Do without a fuse. -/
theorem do0_any (base b : Nat) (d : Dsk) (c : Chg) (cv : Value) (m : Int) (w : World) (h : DiskAt w base b d) (hf : d.fuse ≤ 0 ∨ d.off = true) (hcv : ChgV w cv c) (hbase : base ≤ w.heap.size) (hmb : 0 < base) (hg1 : DGood d) (hcs : CSmall c) (hm : Mx m w) :
    Calls Tryd.prog 29 #[.pointer (some ⟨b, 0, none⟩), cv] w (DoPost base b (if d.off then (15, d) else doE d c) w) :=
  do_any base b d d c cv m w h hcv hbase hmb hg1 hcs hm (beg0 h hf)

set_option maxHeartbeats 1000000 in
set_option maxRecDepth 100000 in
theorem awake9_any (m : Int) (w : World) (hm : Mx m w) :
    Calls Tryd.prog 26 #[] w fun x w' => x = .returned (.bool true) ∧ Below w.heap.size w w' := by
  have hmb : 0 < w.heap.size := World.block_lt_of_cell? w ⟨0, 0, none⟩ hm
  have C1 := Lib.hid (dnew_any w.heap.size [] 99 (.agg #[.slice none 0 0]) m w (Nat.le_refl _) (TreeV.nil w) (by simp) (by simp [cnt]) (by simp) hm)
  have C2 : Hid (∀ b cv W, DiskAt W w.heap.size b (dsk0 [] 99) → ChgV W cv aw_c → w.heap.size ≤ W.heap.size → Mx m W → Calls Tryd.prog 29 #[.pointer (some ⟨b, 0, none⟩), cv] W (DoPost w.heap.size b (0, aw_d) W)) := Lib.hid (fun b cv W h h2 h3 h4 => by
    have := do0_any w.heap.size b (dsk0 [] 99) aw_c cv m W h (.inl (Int.le_refl _)) h2 h3 hmb aw_good.1 aw_small h4
    rw [show (dsk0 [] 99).off = false from rfl, if_neg (by simp), aw_do] at this
    exact this)
  have C3 : Hid (∀ b W, DiskAt W w.heap.size b aw_d → Calls Tryd.prog 30 #[.pointer (some ⟨b, 0, none⟩)] W (DCopPost aw_d.now W)) := Lib.hid (fun b W h => dnow_any w.heap.size b aw_d W h (by decide) (by decide))
  have C4 : Hid (∀ b W, DiskAt W w.heap.size b aw_d → Mx m W → Calls Tryd.prog 32 #[.pointer (some ⟨b, 0, none⟩), .slice none 0 0, .int .i64 (-1)] W (CrashPost w.heap.size b aw_z W)) := Lib.hid (fun b W h h2 => by
    have := crash_any w.heap.size b aw_d (.slice none 0 0) [] (-1) m W h (fun W' _ => IntsV.nil W') (by simp) hmb aw_good.2 aw_ws h2
    rw [aw_cr] at this
    exact this)
  have C5 : Hid (∀ b W, DiskAt W w.heap.size b aw_z → Calls Tryd.prog 30 #[.pointer (some ⟨b, 0, none⟩)] W (DCopPost aw_z.now W)) := Lib.hid (fun b W h => dnow_any w.heap.size b aw_z W h (by decide) (by decide))
  have C6 : Hid (∀ b W, DiskAt W w.heap.size b aw_z → Calls Tryd.prog 36 #[.pointer (some ⟨b, 0, none⟩)] W fun x w' => x = .returned (.bool aw_z.off) ∧ w' = W) := Lib.hid (fun b W h => doff_any w.heap.size b aw_z W h)
  have hfd := fld
  go_enter Tryd.func26, Tryd.ntmps26
  go_wp2_with (first
    | (go_at_call 27; (with_reducible refine C1.out.mono ?_); intro x w1 hx; rw [NewPost, aw_new, if_pos rfl] at hx; obtain ⟨b, rfl, hd1, hb1, hbw1⟩ := hx; have HD1 := Lib.hid (hd1.below ((Below.refl _ w1).alloc (Nat.le_refl _) (.cells #[.int .u8 120, .int .u8 121] 5 (2, 3)))); have hbA := hbw1.alloc hbw1.size (.cells #[.int .u8 120, .int .u8 121] 5 (2, 3)); have q28 := conv_2 120 121 w1; clear hd1)
    | (go_at_call 29; (with_reducible refine (C2.out _ _ _ HD1.out (aw_v w1) hbA.size (hm.below hbA)).mono ?_); rintro x w2 ⟨rfl, hd2, hf2⟩; have HD2 := Lib.hid hd2; have F2 := Lib.hid (hbA.trans (hf2.below hb1 hbA.size)); clear hd2 hf2)
    | (go_at_call 30; (with_reducible refine (C3.out _ _ HD2.out).mono ?_); rintro x w3 ⟨v3, rfl, ht3, hb3⟩; obtain ⟨A3, c3, rfl⟩ := tpost_form ht3; have HD3 := Lib.hid (HD2.out.below hb3); have F3 := Lib.hid (F2.out.trans (hb3.mono F2.out.size)); clear HD2 F2 ht3 hb3)
    | (go_at_call 32; (with_reducible refine (C4.out _ _ HD3.out (hm.below F3.out)).mono ?_); rintro x w4 ⟨rfl, hd4, hg4⟩; have HD4 := Lib.hid hd4; have F4 := Lib.hid (F3.out.trans ((FrD.of_grown hg4).below hb1 F3.out.size)); clear hd4 hg4 HD3 F3)
    | (go_at_call 30; (with_reducible refine (C5.out _ _ HD4.out).mono ?_); rintro x w5 ⟨v5, rfl, ht5, hb5⟩; obtain ⟨A5, c5, rfl⟩ := tpost_form ht5; have HD5 := Lib.hid (HD4.out.below hb5); have F5 := Lib.hid (F4.out.trans (hb5.mono F4.out.size)); clear HD4 ht5 hb5)
    | (go_at_call 36; (with_reducible refine (C6.out _ _ HD5.out).mono ?_); rintro x w6 ⟨rfl, rfl⟩)
    | fail)
  go_ret
  exact ⟨rfl, F5.out⟩
end Go.Proofs.YtpfmenepgejgdaaDoor
