/-
  THE PACKAGE tree, its inner functions: an entry with bytes of its own. Own work.
-/
import Derived.Test.YtpfmenepgejgdaaDoorFind
namespace Go.Proofs.YtpfmenepgejgdaaDoor
open Go.RowKit

/-! ### bytes.Clone, an entry with bytes of its own -/
theorem getD_by8 {bs : List UInt8} {i : Nat} {x : UInt8} (h : bs[i]? = some x) : (bs.map fun b => (b.toNat : Int)).getD i 0 = (x.toNat : Int) := by
  rw [List.getD_eq_getElem?_getD, List.getElem?_map, h]
  rfl

def CloneBPost (bs : List UInt8) (w : World) (x : Ending) (w' : World) : Prop := ∃ v', x = .returned v' ∧ Byt w' v' bs ∧ Below w.heap.size w w' ∧ ∀ k, v'.ownBlock = some k → w.heap.size ≤ k
theorem cloneB_any (bs : List UInt8) (v : Value) (w : World) (h : Byt w v bs) (hn : bs.length ≤ 1048576) :
    Calls Tryd.prog 74 #[v] w (CloneBPost bs w) := by
  obtain ⟨A, c, rfl, hlc, hnone, hcell⟩ := h
  cases A with
  | none =>
    have h0 : bs = [] := List.eq_nil_of_length_eq_zero (by have := hnone rfl; omega)
    subst h0
    refine (Tryd.bytes_Clone_nil _ _ w).mono ?_
    rintro x w' ⟨rfl, rfl⟩
    exact ⟨_, rfl, Byt.nil _, Below.refl _ _, fun k hk => by simp [Value.ownBlock] at hk⟩
  | some a =>
    refine (Tryd.bytes_Clone_at a bs.length c (bs.map fun b => (b.toNat : Int)) w (by simp) (by omega) (fun i hi => ?_)).mono ?_
    · obtain ⟨b, o, e, hc⟩ := hcell (by omega)
      injection e with e
      subst e
      have hx := List.getElem?_eq_getElem hi
      rw [getD_by8 hx, Addr.add_lit]
      exact hc i _ hx
    · rintro x w' ⟨v', rfl, hown, _, hb⟩
      refine ⟨v', rfl, byt_of_own (base := w.heap.size) (e := 5) ?_, hb, fun k hk => (hown.lt k hk).1⟩
      have e : vals bs = (bs.map fun b => (b.toNat : Int)).map (Value.int .u8) := by rw [List.map_map]; rfl
      rw [e]
      exact hown

def OwnPost (e : Ent) (w : World) (x : Ending) (w' : World) : Prop := ∃ v', x = .returned v' ∧ EntV w' v' e ∧ Below w.heap.size w w' ∧ ∀ p d u, v' = .agg #[p, d, u] → ∀ k, u.ownBlock = some k → w.heap.size ≤ k
theorem own_end {w w1 : World} {e : Ent} {u v2 : Value} {t : TypeId} (hb : Below ((w.alloc (.cells #[.string e.path, .bool e.dir, u] t)).alloc (.cells #[.string ⟨#[]⟩, .bool false, .slice none 0 0] t)).heap.size ((w.alloc (.cells #[.string e.path, .bool e.dir, u] t)).alloc (.cells #[.string ⟨#[]⟩, .bool false, .slice none 0 0] t)) w1)
    (hv : Byt w1 v2 e.b) (hu : ∃ A n c, u = .slice A n c) : Byt ((((w1.setCell ⟨w.heap.size, 2, none⟩ v2).setCell ⟨w.heap.size + 1, 0, none⟩ (.string e.path)).setCell ⟨w.heap.size + 1, 1, none⟩ (.bool e.dir)).setCell ⟨w.heap.size + 1, 2, none⟩ v2) v2 e.b := by
  have B1 := ((Bk.new w t #[.string e.path, .bool e.dir, u]).alloc (.cells #[.string ⟨#[]⟩, .bool false, .slice none 0 0] t)).after hb
  have B2 := (Bk.new1 w (.cells #[.string e.path, .bool e.dir, u] t) t #[.string ⟨#[]⟩, .bool false, .slice none 0 0]).after hb
  obtain ⟨A, n, c, rfl⟩ := hu
  have C2 := B2.far (p := ⟨w.heap.size, 2, none⟩) (by simp) v2
  refine (((hv.set B1 (by simp) 2 _).set C2 (by simp) 0 _).set (C2.set 0 _) (by simp) 1 _).set ((C2.set 0 _).set 1 _) (by simp) 2 _

theorem own_any (e : Ent) (v : Value) (w : World) (h : EntV w v e) (hn : e.b.length ≤ 1048576) :
    Calls Tryd.prog 42 #[v] w (OwnPost e w) := by
  obtain ⟨u, rfl, hu⟩ := h
  have hu1 : ∀ o1 o2, Byt ((w.alloc o1).alloc o2) u e.b := fun o1 o2 => hu.below (((Below.refl _ _).alloc (Nat.le_refl _) _).alloc (by simp) _)
  have HU : Hid (∃ A n c, u = .slice A n c) := by obtain ⟨A, c, h, _⟩ := hu; exact ⟨A, _, c, h⟩
  clear hu
  go_enter Tryd.func42, Tryd.ntmps42
  go_wp2_with (go_at_call 74; (with_reducible refine (cloneB_any e.b u _ (hu1 _ _) hn).mono ?_); rintro x w1 ⟨v', rfl, hv, hb1, hfr⟩; have FR := Lib.hid hfr; clear hfr; have HV := Lib.hid hv; obtain ⟨A', c', rfl, hq⟩ := hv; clear hq; have k1 := (((Bk.new w _ _).alloc _).after hb1).cell; have f1 := (((Bk.new w _ _).alloc _).after hb1).free; have k2 := ((Bk.new1 w _ _ _).after hb1).cell; have f2 := ((Bk.new1 w _ _ _).after hb1).free)
  refine bodyPost_ret (v := .agg #[.string e.path, .bool e.dir, .slice A' e.b.length c']) (by simp [results, Tryd.results42, go_sem, k2]) rfl ?_
  refine ⟨_, rfl, ⟨_, rfl, own_end hb1 HV.out HU.out⟩, ?_, fun p d u hu k hk => ?_⟩
  rotate_left
  · injection hu with hu
    injection hu with hu
    injection hu with _ hu
    injection hu with _ hu
    injection hu with hu _
    subst hu
    have := FR.out k hk
    simp at this
    omega
  exact ((((((Below.refl _ _).alloc (Nat.le_refl _) _).alloc (by simp) _).trans (hb1.mono (by simp; omega))).setCell (by simp) _).setCell (by simp) _).setCell (by simp) _ |>.setCell (by simp) _
end Go.Proofs.YtpfmenepgejgdaaDoor
