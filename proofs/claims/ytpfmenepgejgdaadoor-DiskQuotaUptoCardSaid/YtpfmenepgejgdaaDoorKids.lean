/-
  tree.Kids. Own work.
-/
import Derived.Test.YtpfmenepgejgdaaDoorPut
import Derived.Deep.AppendLies
namespace Go.Proofs.YtpfmenepgejgdaaDoor
open Go.RowKit

/-- A slice of texts. -/
def StrV (w : World) (u : Value) (l : List ByteArray) : Prop := ∃ A c, u = .slice A l.length c ∧ (0 < l.length → ∃ b o, A = some ⟨b, o, none⟩ ∧ ∀ j s, l[j]? = some s → w.cell? ⟨b, o + j, none⟩ = some (.string s))
theorem StrV.below {w w1 : World} {u : Value} {l : List ByteArray} (h : StrV w u l) (hb : Below w.heap.size w w1) : StrV w1 u l := by
  obtain ⟨A, c, rfl, h2⟩ := h
  refine ⟨A, c, rfl, fun hp => ?_⟩
  obtain ⟨b, o, e, h3⟩ := h2 hp
  exact ⟨b, o, e, fun j s hj => cell_below hb (h3 j s hj)⟩
theorem strv_of_own {w : World} {base : Nat} {e : TypeId} {v : Value} {l : List ByteArray} (h : w.ownsRow base e 1 v l.length (l.map Value.string)) : StrV w v l := by
  obtain ⟨A, c, rfl, _, _, h4⟩ := own_form h
  refine ⟨A, c, rfl, fun hp => ?_⟩
  obtain ⟨g, rfl, h5⟩ := h4 hp
  exact ⟨g, 0, rfl, fun j s hj => h5 j _ (by rw [List.getElem?_map, hj]; rfl)⟩

def isKid (p : ByteArray) (e : Ent) : Bool := (upS e.path).toList == p.toList
def kidsE (es : List Ent) (p : ByteArray) : List ByteArray := if goodT es then (es.filter (isKid p)).map (·.path) else []
def KidsPost (l : List ByteArray) (w : World) (x : Ending) (w' : World) : Prop := ∃ u, x = .returned u ∧ StrV w' u l ∧ Below w.heap.size w w'
theorem info9 : (Tryd.prog.info? 9).map (fun i => (i.zero, i.size, i.bytes)) = some (some (.string ⟨#[]⟩), 1, 16) := by kernel_rfl
theorem kid_snoc {es : List Ent} {k : Nat} {x : Ent} {p : ByteArray} (h : es[k]? = some x) : ((es.take (k + 1)).filter (isKid p)).map (·.path) = ((es.take k).filter (isKid p)).map (·.path) ++ (if isKid p x then [x.path] else []) := by
  rw [List.take_add_one, h, List.filter_append, List.map_append]
  cases hx : isKid p x <;> simp [hx]

set_option maxHeartbeats 1000000 in
theorem kids_any (es : List Ent) (p : ByteArray) (v : Value) (m : Int) (w : World) (h : TreeV w v es) (hn : es.length ≤ 1048576) (hc : cnt es ≤ 1048576) (hz : ∀ e ∈ es, e.path.size ≤ 1048576) (hm : Mx m w) :
    Calls Tryd.prog 25 #[v, .string p] w (KidsPost (kidsE es p) w) := by
  have C1 := Lib.hid (fun w1 (hb : Below w.heap.size w w1) => treeGood_any es v m w1 (h.below hb) hn hc hz (hm.below hb))
  obtain ⟨u, rfl, A, c, rfl, _, _, hcell⟩ := h
  have HC := Lib.hid hcell
  have HZ := Lib.hid hz
  clear hcell hz
  obtain ⟨i0, hi, hz0, hz1, hz2⟩ := info_parts info9
  have B0 := (Below.refl w.heap.size w).alloc (Nat.le_refl _) (.cells #[.slice A es.length c] 25)
  have PE : Hid (kidsE es p = if goodT es then (es.filter (isKid p)).map (·.path) else []) := (rfl : kidsE es p = if goodT es then (es.filter (isKid p)).map (·.path) else [])
  cases hg : goodT es with
  | false =>
    have G := Lib.hid hg
    clear hg
    go_enter Tryd.func25, Tryd.ntmps25
    go_wp2_with (go_at_call 9; (with_reducible refine (C1.out _ B0).mono ?_); rintro x w1 ⟨rfl, hb1⟩; rw [G.out])
    go_ret
    exact ⟨_, rfl, by rw [PE.out, G.out]; exact ⟨none, 0, rfl, fun h => absurd h (by simp)⟩, B0.trans (hb1.mono (by simp))⟩
  | true =>
    have G := Lib.hid hg
    clear hg
    go_enter Tryd.func25, Tryd.ntmps25
    go_wp2_with (go_at_call 9; (with_reducible refine (C1.out _ B0).mono ?_); rintro x w1 ⟨rfl, hb1⟩; rw [G.out]; have k1 := ((Bk.new w 25 #[.slice A es.length c]).after hb1).cell)
    have hb01 := B0.trans (hb1.mono (by simp))
    clear k1
    go_loopw [5, 16] (fun s5 s16 wr => ∃ k : Nat, k ≤ es.length ∧ s16 = .int .i64 k ∧ Below w.heap.size w wr ∧ wr.ownsRow w.heap.size 9 1 s5 (((es.take k).filter (isKid p)).map (·.path)).length ((((es.take k).filter (isKid p)).map (·.path)).map Value.string)) (fun _ s16 _ => es.length - (intOf s16).toNat)
    case atStart => exact ⟨0, Nat.zero_le _, rfl, hb01, World.ownsRow_nil _ _ _ _⟩
    case round =>
      obtain ⟨k, hk, rfl, hb, hown⟩ := hrel
      by_cases hlt : k < es.length
      · obtain ⟨x, hkx⟩ : ∃ x, es[k]? = some x := ⟨_, List.getElem?_eq_getElem hlt⟩
        obtain ⟨b, o, rfl, hq⟩ := HC.out (by omega)
        obtain ⟨u, c0, c1, c2, A1, d1, rfl, _⟩ := (hq k x hkx).below hb
        have hxs := HZ.out x (List.mem_of_getElem? hkx)
        have hmr := hm.below hb
        have C2 := Lib.hid (fun w2 (h : Below wr.heap.size wr w2) => up_any x.path m w2 hxs (hmr.below h))
        have KS := Lib.hid (kid_snoc (p := p) hkx)
        obtain ⟨l, hl⟩ : ∃ l, l = ((es.take k).filter (isKid p)).map (·.path) := ⟨_, rfl⟩
        have HLK : Hid (l.length ≤ k) := by
          have : l.length ≤ k := by
            rw [hl, List.length_map]
            exact Nat.le_trans (List.length_filter_le _ _) (List.length_take_le _ _)
          exact this
        rw [← hl] at hown KS
        have HO := Lib.hid hown
        have hsz := hb.size
        have hbA := (Below.refl wr.heap.size wr).alloc (Nat.le_refl _) (.cells #[.string x.path, .bool x.dir, .slice A1 x.b.length d1] 30)
        have K1 := Bk.new wr 30 #[.string x.path, .bool x.dir, .slice A1 x.b.length d1]
        clear hown hkx hq hl
        cases hd : ((upS x.path).toList == p.toList) with
        | false =>
          have HD : Hid (isKid p x = false) := (hd : isKid p x = false)
          go_wp2_with (go_at_call 38; (with_reducible refine (C2.out _ hbA).mono ?_); rintro y w2 ⟨rfl, hb2⟩; have hb3 := hbA.trans (hb2.mono hbA.size))
          go_roundw
          case rel =>
            refine ⟨k + 1, hlt, by go_num, hb.trans (hb3.mono hsz), ?_⟩
            rw [KS.out, HD.out]
            simpa using row_below HO.out hb3
          case measure => simp [intOf]; omega
        | true =>
          have HD : Hid (isKid p x = true) := (hd : isKid p x = true)
          go_wp2_with (first
            | (go_at_call 38; (with_reducible refine (C2.out _ hbA).mono ?_); rintro y w2 ⟨rfl, hb2⟩; have hb3 := hbA.trans (hb2.mono hbA.size); have k2 := (K1.after hb2).cell; have HO2 := Lib.hid (row_below HO.out hb3))
            | (at_builtin; refine wpList_append_own _ rfl _ _ 52 rfl w.heap.size 9 i0 (.string ⟨#[]⟩) 1 16 Tryd.underlying52 hi hz0 hz1 hz2 rfl (by decide) _ _ _ rfl (row_below HO2.out ((Below.refl _ w2).alloc (Nat.le_refl _) _)) ⟨w2.heap.size, 0, none⟩ 1 1 [.string x.path] rfl rfl ?qa1 ?qa2 ?qa3 ?qa4 ?qa5 ?_)
            | fail)
          case qa1 => exact World.news_of_block (heap_alloc_new w2 _)
          case qa2 => simp [Value.oneCell']
          case qa3 => have := HLK.out; unfold maxLen; omega
          case qa4 => have := HLK.out; omega
          case qa5 => have := hb3.size; simp; omega
          intro v' w5 hown5 hg5 _
          have HO5 := Lib.hid hown5
          have hb5 : Below w.heap.size w w5 := ((hb.trans (hb3.mono hsz)).alloc (by have := hb3.size; omega) _).grown hg5 (by have := hb3.size; simp; omega) (fun g hg => (HO2.out.lt g hg).1)
          clear hown5 hg5
          go_wp2_with fail
          go_roundw
          case rel =>
            refine ⟨k + 1, hlt, by go_num, hb5, ?_⟩
            rw [KS.out, HD.out, if_pos rfl, List.length_append, List.map_append]
            exact HO5.out
          case measure => simp [intOf]; omega
      · obtain rfl : es.length = k := by omega
        rw [List.take_length] at hown
        have HO := Lib.hid hown
        clear hown
        go_wp2_with fail
        go_ret
        exact ⟨_, rfl, by rw [PE.out, G.out, if_pos rfl]; exact strv_of_own HO.out, hb⟩
end Go.Proofs.YtpfmenepgejgdaaDoor
