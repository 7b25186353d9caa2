/-
  path.Under at the receiver's place, path.Inside, and where the first such entry stands (slices.IndexFunc). Own work.
-/
import Derived.Test.YtpfmenepgejgdaaDoorMem
import Derived.Test.YtpfmenepgejgdaaDoorFind
namespace Go.Proofs.YtpfmenepgejgdaaDoor
open Go.RowKit

def workB : ByteArray := ⟨#[46, 119, 111, 114, 107]⟩
theorem work_good : gpB workB = true := by kernel_rfl
/-- In that directory, at any depth. -/
def underW (p : ByteArray) : Bool := gpB p && Lib.hasPrefix (bd p) [46, 119, 111, 114, 107, 47]
def insideB (p : ByteArray) : Bool := (p.toList == [46, 119, 111, 114, 107]) || underW p

theorem under_any (p : ByteArray) (m : Int) (w : World) (hp : p.size ≤ 1048576) (hm : Mx m w) :
    Calls Tryd.prog 79 #[.string p, .string workB] w fun x w' => x = .returned (.bool (underW p)) ∧ Below w.heap.size w w' := by
  have C1 := Lib.hid (fun w1 (hb : Below w.heap.size w w1) => good_any p m w1 hp (hm.below hb))
  have C2 := Lib.hid (fun w1 (hb : Below w.heap.size w w1) => good_any workB m w1 (by decide) (hm.below hb))
  rw [work_good] at C2
  have C3 := Lib.hid (fun w1 => Tryd.strings_HasPrefix p (workB ++ ⟨#[47]⟩) w1)
  have UW : Hid (underW p = (gpB p && Lib.hasPrefix (bd p) [46, 119, 111, 114, 107, 47])) := (rfl : underW p = (gpB p && Lib.hasPrefix (bd p) [46, 119, 111, 114, 107, 47]))
  have EW : (workB ++ ⟨#[47]⟩ : ByteArray).data.toList = [46, 119, 111, 114, 107, 47] := by decide
  rw [EW] at C3
  clear EW
  unfold workB at *
  cases hg : gpB p
  all_goals
    have G := Lib.hid hg
    clear hg
    go_enter Tryd.func79, Tryd.ntmps79
    go_wp2_with (first
      | (go_at_call 40; (with_reducible refine (C1.out _ (Below.refl _ _)).mono ?_); rintro x w1 ⟨rfl, hb1⟩; rw [G.out])
      | (go_at_call 40; (with_reducible refine (C2.out _ hb1).mono ?_); rintro x w2 ⟨rfl, hb2⟩; have hb12 := hb1.trans (hb2.mono hb1.size))
      | (go_at_call 89; (with_reducible refine (C3.out _).mono ?_); rintro x w3 ⟨rfl, rfl⟩)
      | fail)
    go_ret
  · exact ⟨ret_bool (by rw [UW.out, G.out]; rfl), hb1⟩
  · exact ⟨ret_bool (by rw [UW.out, G.out]; rfl), hb12⟩

theorem inside_any (p : ByteArray) (m : Int) (w : World) (hp : p.size ≤ 1048576) (hm : Mx m w) :
    Calls Tryd.prog 58 #[.string p] w fun x w' => x = .returned (.bool (insideB p)) ∧ Below w.heap.size w w' := by
  have C1 := Lib.hid (fun w1 (hb : Below w.heap.size w w1) => under_any p m w1 hp (hm.below hb))
  have IB : Hid (insideB p = ((p.toList == [46, 119, 111, 114, 107]) || underW p)) := (rfl : insideB p = ((p.toList == [46, 119, 111, 114, 107]) || underW p))
  unfold workB at *
  cases hg : (p.toList == [46, 119, 111, 114, 107])
  all_goals
    have G := Lib.hid hg
    go_enter Tryd.func58, Tryd.ntmps58
    go_wp2_with (first
      | (go_at_call 79; (with_reducible refine (C1.out _ (Below.refl _ _)).mono ?_); rintro x w1 ⟨rfl, hb1⟩)
      | fail)
    go_ret
  · exact ⟨ret_bool (by rw [IB.out, G.out]; rfl), hb1⟩
  · exact ⟨ret_bool (by rw [IB.out, G.out]; rfl), Below.refl _ _⟩

theorem inE_any (e : Ent) (v : Value) (m : Int) (w : World) (he : EntV w v e) (h1 : e.path.size ≤ 1048576) (hm : Mx m w) :
    Calls Tryd.prog 57 #[v] w fun x w' => x = .returned (.bool (insideB e.path)) ∧ Below w.heap.size w w' := by
  obtain ⟨u, rfl, A, c, rfl, _⟩ := he
  have C1 := Lib.hid (fun w1 (hb : Below w.heap.size w w1) => inside_any e.path m w1 h1 (hm.below hb))
  have B0 := (Below.refl w.heap.size w).alloc (Nat.le_refl _) (.cells #[.string e.path, .bool e.dir, .slice A e.b.length c] 30)
  go_enter Tryd.func57, Tryd.ntmps57
  go_wp2_with (go_at_call 58; (with_reducible refine (C1.out _ ((Below.refl _ _).alloc (Nat.le_refl _) _)).mono ?_); rintro x w1 ⟨rfl, hb1⟩)
  go_ret
  exact ⟨rfl, B0.trans (hb1.mono (by simp))⟩

/-- The first that lies there. -/
def IdxE (es : List Ent) (w : World) (x : Ending) (w' : World) : Prop :=
  (∃ i : Int, x = .returned (.int .i64 i) ∧ ((i = -1 ∧ ∀ e ∈ es, insideB e.path = false) ∨ ∃ (k : Nat) (e : Ent), i = k ∧ es[k]? = some e ∧ insideB e.path = true ∧ ∀ e ∈ es.take k, insideB e.path = false)) ∧ Below w.heap.size w w'
theorem idxE_any (es : List Ent) (v : Value) (m : Int) (w : World) (h : Ents w v es) (hn : es.length ≤ 1048576) (hz : ∀ e ∈ es, e.path.size ≤ 1048576) (hm : Mx m w) :
    Calls Tryd.prog 78 #[v, .func (.func 57) #[] #[]] w (IdxE es w) := by
  have eg := enters_of Tryd.func57 (by kernel_rfl) rfl
  obtain ⟨A, c, rfl, _, _, hcell⟩ := h
  have HC := Lib.hid hcell
  have HZ := Lib.hid hz
  clear hcell hz
  go_enter Tryd.func78, Tryd.ntmps78
  go_wp2_with fail
  go_loopw [8] (fun i wr => ∃ k : Nat, k ≤ es.length ∧ i = .int .i64 k ∧ Hid (∀ e ∈ es.take k, insideB e.path = false) ∧ Below w.heap.size w wr) (fun i _ => es.length - (intOf i).toNat)
  case atStart => exact ⟨0, Nat.zero_le _, rfl, (by simp : ∀ e ∈ es.take 0, insideB e.path = false), Below.refl _ _⟩
  case round =>
    obtain ⟨k, hk, rfl, HF, hb⟩ := hrel
    by_cases hlt : k < es.length
    · obtain ⟨x, hkx⟩ : ∃ x, es[k]? = some x := ⟨_, List.getElem?_eq_getElem hlt⟩
      obtain ⟨b, o, rfl, hq⟩ := HC.out (by omega)
      obtain ⟨u, c0, c1, c2, hu⟩ := (hq k x hkx).below hb
      have C := Lib.hid (fun w1 (h : Below wr.heap.size wr w1) => inE_any x (.agg #[.string x.path, .bool x.dir, u]) m w1 ⟨u, rfl, hu.below h⟩ (HZ.out x (List.mem_of_getElem? hkx)) (hm.below (hb.trans (h.mono hb.size))))
      obtain ⟨A1, d1, rfl, _⟩ := hu
      have HX := Lib.hid hkx
      clear hkx hq
      cases hg : insideB x.path with
      | false =>
        have HG := Lib.hid hg
        go_wp2_with (go_at_call 57; (with_reducible refine (C.out _ (Below.refl _ _)).mono ?_); rintro e w1 ⟨rfl, hb1⟩; rw [HG.out])
        go_roundw
        case rel =>
          refine ⟨k + 1, hlt, by go_num, ?_, hb.trans (hb1.mono hb.size)⟩
          have : ∀ e ∈ es.take (k + 1), insideB e.path = false := by
            intro y hy
            rw [List.take_add_one, HX.out] at hy
            rcases List.mem_append.1 hy with hy | hy
            · exact HF.out y hy
            · simp at hy; rw [hy]; exact HG.out
          exact this
        case measure => simp [intOf]; omega
      | true =>
        have HG := Lib.hid hg
        go_wp2_with (go_at_call 57; (with_reducible refine (C.out _ (Below.refl _ _)).mono ?_); rintro e w1 ⟨rfl, hb1⟩; rw [HG.out])
        go_ret
        exact ⟨⟨k, rfl, .inr ⟨k, x, rfl, HX.out, HG.out, HF.out⟩⟩, hb.trans (hb1.mono hb.size)⟩
    · obtain rfl : es.length = k := by omega
      go_wp2
      go_ret
      exact ⟨⟨-1, rfl, .inl ⟨rfl, by have := HF.out; rwa [List.take_length] at this⟩⟩, hb⟩
end Go.Proofs.YtpfmenepgejgdaaDoor
