/-
  THE PACKAGE path: what each of its functions answers. Own work.
-/
import Derived.Test.YtpfmenepgejgdaaDoorLib
import Derived.Deep.QuietTactic
import Derived.BigQuiet
import Derived.IntWalk
namespace Go.Proofs.YtpfmenepgejgdaaDoor
open Go.RowKit

def letters : ByteArray := ⟨#[97, 98, 99, 100, 101, 102, 103, 104, 105, 106, 107, 108, 109, 110, 111, 112, 113, 114, 115, 116, 117, 118, 119, 120, 121, 122, 48, 49, 50, 51, 52, 53, 54, 55, 56, 57, 46, 45, 95]⟩

theorem trim_any (s : ByteArray) (w : World) (hs : s.size ≤ 1048576) :
    Calls Tryd.prog 86 #[.string s, .string letters] w fun e w' => e = .returned (.string ⟨(Lib.trimS s.data.toList Pl.lets).toArray⟩) ∧ Below w.heap.size w w' :=
  Any.strings_Trim_laid Tryd.lays160 (by kernel_rfl) s letters w (by omega) (by decide) (ascii_of_all (by decide))

theorem ret_bool {a b : Bool} (h : a = b) : Ending.returned (.bool a) = Ending.returned (.bool b) := by rw [h]
theorem ret_int {k : IntKind} {a b : Int} (h : a = b) : Ending.returned (.int k a) = Ending.returned (.int k b) := by rw [h]

theorem gn_b (s : ByteArray) : Pl.gn s.data.toList = (!s.toList.isEmpty && decide (s.size ≤ 16) && !(s.toList == [46]) && !(s.toList == [46, 46]) && (Lib.trimS s.data.toList Pl.lets).isEmpty) := by
  unfold Pl.gn
  rw [Lib.toList_data]
  have e : s.data.toList.all (Pl.lets.contains ·) = (Lib.trimS s.data.toList Pl.lets).isEmpty := by
    rw [Bool.eq_iff_iff, ← Pl.trim_all, List.isEmpty_iff]
  rw [e]
  rfl

theorem goodName_any (s : ByteArray) (w : World) (hs : s.size ≤ 1048576) :
    Calls Tryd.prog 71 #[.string s] w fun e w' => e = .returned (.bool (Pl.gn s.data.toList)) ∧ Below w.heap.size w w' := by
  have ht := fun w => trim_any s w hs
  have G := Lib.hid (gn_b s)
  unfold letters at ht
  go_enter Tryd.func71, Tryd.ntmps71
  go_wp2_with (go_at_call 86; refine (ht _).mono ?_; rintro e w1 ⟨rfl, hb1⟩)
  all_goals clear ht
  all_goals go_ret
  · exact ⟨ret_bool (by rw [G.out]; simp [*]), Below.refl _ _⟩
  · exact ⟨ret_bool (by rw [G.out]; simp [*]), Below.refl _ _⟩
  · exact ⟨ret_bool (by rw [G.out]; simp [*]), Below.refl _ _⟩
  · have : s.size ≤ 16 := by omega
    exact ⟨ret_bool (by rw [G.out]; simp [*]), hb1⟩
  · have : ¬ s.size ≤ 16 := by omega
    exact ⟨ret_bool (by rw [G.out]; simp [*]), Below.refl _ _⟩

theorem notName_any (s : ByteArray) (w : World) (hs : s.size ≤ 1048576) :
    Calls Tryd.prog 70 #[.string s] w fun e w' => e = .returned (.bool (!Pl.gn s.data.toList)) ∧ Below w.heap.size w w' := by
  go_enter Tryd.func70, Tryd.ntmps70
  go_wp2_with (go_at_call 71; refine (goodName_any _ _ hs).mono ?_; rintro e w1 ⟨rfl, hb1⟩)
  go_ret
  exact ⟨rfl, hb1⟩

/-- Is one of them none? -/
def anyBad (X : List ByteArray) : Bool := !X.all (fun x => Pl.gn x.data.toList)
def IdxPost (X : List ByteArray) (w : World) (e : Ending) (w' : World) : Prop :=
  (∃ i : Int, e = .returned (.int .i64 i) ∧ (0 ≤ i ↔ anyBad X = true)) ∧ Below w.heap.size w w'

set_option maxHeartbeats 1000000 in
theorem indexName_any (X : List ByteArray) (a : Addr) (c : Nat) (w : World) (hx : Strs w a X) (hX : X.length ≤ 1000000000) (hsz : ∀ x ∈ X, x.size ≤ 1048576) :
    Calls Tryd.prog 85 #[.slice (some a) X.length c, .func (.func 70) #[] #[]] w (IdxPost X w) := by
  have eg := enters_of Tryd.func70 (by kernel_rfl) rfl
  go_enter Tryd.func85, Tryd.ntmps85
  go_wp2_with fail
  go_loopw [8] (fun i wr => ∃ k : Nat, k ≤ X.length ∧ i = .int .i64 k ∧ Hid (∀ x ∈ X.take k, Pl.gn x.data.toList = true) ∧ Below w.heap.size w wr) (fun i _ => X.length - (intOf i).toNat)
  case atStart => exact ⟨0, Nat.zero_le _, rfl, (by simp : ∀ x ∈ X.take 0, Pl.gn x.data.toList = true), Below.refl _ _⟩
  case round =>
    obtain ⟨k, hk, rfl, HC, hb⟩ := hrel
    by_cases hlt : k < X.length
    · obtain ⟨x, hkx⟩ : ∃ x, X[k]? = some x := ⟨_, List.getElem?_eq_getElem hlt⟩
      have c1 := cell_below hb (hx k x hkx)
      have hs := hsz x (List.mem_of_getElem? hkx)
      have HX := Lib.hid hkx
      clear hkx
      cases hg : Pl.gn x.data.toList with
      | true =>
        have HG := Lib.hid hg
        go_wp2_with (go_at_call 70; refine (notName_any _ _ hs).mono ?_; rintro e w1 ⟨rfl, hb1⟩)
        go_roundw
        case rel =>
          refine ⟨k + 1, hlt, by go_num, ?_, hb.trans (hb1.mono hb.size)⟩
          have : ∀ x ∈ X.take (k + 1), Pl.gn x.data.toList = true := by
            intro y hy
            rw [List.take_add_one, HX.out] at hy
            rcases List.mem_append.1 hy with hy | hy
            · exact HC.out y hy
            · simp at hy; rw [hy]; exact HG.out
          exact this
        case measure => simp [intOf]; omega
      | false =>
        have HG := Lib.hid hg
        go_wp2_with (go_at_call 70; refine (notName_any _ _ hs).mono ?_; rintro e w1 ⟨rfl, hb1⟩)
        go_ret
        refine ⟨⟨k, rfl, fun _ => ?_, fun _ => by omega⟩, hb.trans (hb1.mono hb.size)⟩
        rw [anyBad, Bool.not_eq_true', List.all_eq_false]
        exact ⟨x, List.mem_of_getElem? HX.out, by rw [HG.out]; simp⟩
    · obtain rfl : X.length = k := by omega
      go_wp2
      go_ret
      refine ⟨⟨-1, rfl, fun h => by omega, fun h => ?_⟩, hb⟩
      rw [anyBad, Bool.not_eq_true', List.all_eq_false] at h
      obtain ⟨x, hx, hn⟩ := h
      exact absurd (HC.out x (by rw [List.take_length]; exact hx)) hn

theorem anyBad_any (X : List ByteArray) (a : Addr) (c : Nat) (w : World) (hx : Strs w a X) (hX : X.length ≤ 1000000000) (hsz : ∀ x ∈ X, x.size ≤ 1048576) :
    Calls Tryd.prog 69 #[.slice (some a) X.length c, .func (.func 70) #[] #[]] w fun e w' =>
      e = .returned (.bool (anyBad X)) ∧ Below w.heap.size w w' := by
  go_enter Tryd.func69, Tryd.ntmps69
  go_wp2_with (go_at_call 85; refine (indexName_any X _ _ _ hx hX hsz).mono ?_; rintro e w1 ⟨⟨i, rfl, hi⟩, hb1⟩; have HI := Lib.hid hi; clear hi)
  go_ret
  exact ⟨ret_bool (by rw [Bool.eq_iff_iff]; simp [HI.out]), hb1⟩

theorem sp_size (p : ByteArray) : ∀ x ∈ spB p, x.size ≤ p.size := by
  intro x hx
  have h1 : x.data.toList ∈ Pl.sp p.data.toList := by rw [← tx_spB]; exact List.mem_map.2 ⟨x, hx, rfl⟩
  have : ∀ (l : Pl.Bs), ∀ n ∈ Pl.sp l, n.length ≤ l.length := by
    intro l
    induction l with
    | nil => intro n hn; simp [Pl.sp] at hn; simp [hn]
    | cons c r ih =>
      intro n hn
      unfold Pl.sp at hn
      by_cases hc : c = 47
      · rw [if_pos hc] at hn
        rcases List.mem_cons.1 hn with rfl | hn
        · simp
        · have := ih n hn; simp; omega
      · rw [if_neg hc] at hn
        have := Pl.sp_ne r
        cases hs : Pl.sp r with
        | nil => exact absurd hs this
        | cons h t =>
          rw [hs] at hn ih
          rcases List.mem_cons.1 hn with rfl | hn
          · have := ih h List.mem_cons_self; simp; omega
          · have := ih n (List.mem_cons_of_mem _ hn); simp; omega
  have := this _ _ h1
  simpa using this

/-- May a path be? -/
def gpB (p : ByteArray) : Bool := Pl.gp p.data.toList
theorem gpB_eq (p : ByteArray) : gpB p = (decide ((spB p).length ≤ 4) && !anyBad (spB p)) := by
  unfold gpB Pl.gp anyBad
  rw [spB_len, Bool.not_not, ← tx_spB, tx, List.all_map]
  rfl

theorem good_any (p : ByteArray) (m : Int) (w : World) (hs : p.size ≤ 1048576) (hm : Mx m w) :
    Calls Tryd.prog 40 #[.string p] w fun e w' => e = .returned (.bool (gpB p)) ∧ Below w.heap.size w w' := by
  have G := Lib.hid (gpB_eq p)
  have hl := spB_le p
  have S := Lib.hid (fun x hx => Nat.le_trans (sp_size p x hx) hs)
  by_cases h4 : (spB p).length ≤ 4
  · have h4' : ¬ (4 < (spB p).length) := by omega
    go_enter Tryd.func40, Tryd.ntmps40
    go_wp2_with (first
      | (go_at_call 68; refine (split_any _ m _ hs hm).mono ?_; rintro e w1 ⟨rfl, hst, hb1⟩; have HS := Lib.hid hst; clear hst)
      | (go_at_call 69; refine (anyBad_any _ _ _ _ HS.out (by omega) S.out).mono ?_; rintro e w2 ⟨rfl, hb2⟩))
    go_ret
    exact ⟨ret_bool (by rw [G.out, decide_eq_true h4]; rfl), hb1.trans (hb2.mono hb1.size)⟩
  · have h4' : 4 < (spB p).length := by omega
    go_enter Tryd.func40, Tryd.ntmps40
    go_wp2_with (first
      | (go_at_call 68; refine (split_any _ m _ hs hm).mono ?_; rintro e w1 ⟨rfl, hst, hb1⟩; have HS := Lib.hid hst; clear hst))
    go_ret
    exact ⟨ret_bool (by rw [G.out, decide_eq_false h4]; rfl), hb1⟩

theorem cmp_any (p q : ByteArray) (m : Int) (w : World) (hp : p.size ≤ 1048576) (hq : q.size ≤ 1048576) (hm : Mx m w) :
    Calls Tryd.prog 39 #[.string p, .string q] w fun e w' => e = .returned (.int .i64 (Pl.pc p.data.toList q.data.toList)) ∧ Below w.heap.size w w' := by
  have hl := spB_le p
  have hl2 := spB_le q
  have G : Hid (cs (spB p) (spB q) = Pl.pc p.data.toList q.data.toList) := by
    have : cs (spB p) (spB q) = Pl.pc p.data.toList q.data.toList := by rw [cs_cl, tx_spB, tx_spB]; rfl
    exact this
  go_enter Tryd.func39, Tryd.ntmps39
  go_wp2_with (first
    | (go_at_call 68; (with_reducible refine (split_any p m w hp hm).mono ?_); rintro e w1 ⟨rfl, hst, hb1⟩; have HS := Lib.hid hst; clear hst)
    | (go_at_call 68; (with_reducible refine (split_any q m w1 hq (hm.below hb1)).mono ?_); rintro e w2 ⟨rfl, hst, hb2⟩; have HS2 := Lib.hid hst; clear hst)
    | (go_at_call 67; refine (cmps_any _ _ _ _ _ _ _ (HS.out.below hb2) HS2.out (by omega) (by omega)).mono ?_; rintro e w3 ⟨rfl, rfl⟩))
  go_ret
  exact ⟨ret_int G.out, hb1.trans (hb2.mono hb1.size)⟩

/-! ### parts, Up -/
/-- All names but the last, and a '/' between. -/
def upB (p : ByteArray) : ByteArray := ⟨(Pl.up p.data.toList).toArray⟩

theorem jo_append {a : List Pl.Bs} {b : Pl.Bs} (ha : a ≠ []) : Pl.jo (a ++ [b]) = Pl.jo a ++ 47 :: b := by
  induction a with
  | nil => exact absurd rfl ha
  | cons x r ih =>
    cases r with
    | nil => rfl
    | cons y t =>
      have := ih (by simp)
      simp only [List.cons_append] at this ⊢
      rw [Pl.jo, Pl.jo, this, List.append_assoc]
      rfl

theorem lastIdx_spec {l : Pl.Bs} {b : Pl.Bs} {a : List Pl.Bs} (h : Pl.sp l = a ++ [b]) : (a = [] → l = b) ∧ (a ≠ [] → l = Pl.jo a ++ 47 :: b) := by
  have h2 := Pl.jo_sp l
  rw [h] at h2
  refine ⟨fun e => ?_, fun e => ?_⟩
  · rw [e] at h2; exact h2.symm
  · rw [jo_append e] at h2; exact h2.symm

theorem lastOcc_above (s : Pl.Bs) : ∀ (k n : Nat), k ≤ n → (∀ j, k ≤ j → j < n → Lib.occAt s [47] j = false) → Lib.lastOcc s [47] n = Lib.lastOcc s [47] k
  | k, 0, hk, _ => by
    obtain rfl : k = 0 := by omega
    rfl
  | k, n + 1, hk, h => by
    rcases Nat.lt_or_ge k (n + 1) with hlt | hge
    · rw [Lib.lastOcc_miss _ _ _ (h n (by omega) (by omega)), lastOcc_above s k n (by omega) (fun j h1 h2 => h j h1 (by omega))]
    · obtain rfl : k = n + 1 := by omega
      rfl

theorem occ_at (s : Pl.Bs) (j : Nat) : Lib.occAt s [47] j = (s[j]? == some 47) := by
  unfold Lib.occAt
  rw [Pl.pre_one]
  cases hd : s.drop j with
  | nil =>
    have : s.length ≤ j := by
      have := congrArg List.length hd
      rw [List.length_drop, List.length_nil] at this; omega
    rw [List.getElem?_eq_none this]; rfl
  | cons c t =>
    have hlt : j < s.length := by
      have := congrArg List.length hd
      rw [List.length_drop, List.length_cons] at this; omega
    rw [List.drop_eq_getElem_cons hlt] at hd
    injection hd with h1 _
    rw [List.getElem?_eq_getElem hlt, h1]
    simp only
    by_cases hc : c = 47
    · subst hc; rfl
    · rw [decide_eq_false (fun e => hc e.symm)]
      symm
      rw [beq_eq_false_iff_ne]
      intro e
      injection e with e
      exact hc e

theorem lastIndex_miss {b : Pl.Bs} (h : (47 : UInt8) ∉ b) : Lib.lastIndex b [47] = -1 := by
  unfold Lib.lastIndex
  split
  · rw [lastOcc_above b 0 _ (Nat.zero_le _) (fun j _ _ => by
      rw [occ_at, beq_eq_false_iff_ne]
      intro e
      exact h (List.mem_of_getElem? e))]
    rfl
  · rfl

theorem lastIndex_hit {a b : Pl.Bs} (h : (47 : UInt8) ∉ b) : Lib.lastIndex (a ++ 47 :: b) [47] = (a.length : Int) := by
  unfold Lib.lastIndex
  rw [if_pos (by simp; omega)]
  rw [lastOcc_above _ (a.length + 1) _ (by simp) (fun j h1 h2 => by
    rw [occ_at, List.getElem?_append_right (by omega), beq_eq_false_iff_ne]
    obtain ⟨i, hi⟩ : ∃ i, j - a.length = i + 1 := ⟨j - a.length - 1, by omega⟩
    rw [hi, List.getElem?_cons_succ]
    intro e
    exact h (List.mem_of_getElem? e))]
  exact Lib.lastOcc_hit _ _ _ (by rw [occ_at, List.getElem?_append_right (Nat.le_refl _), Nat.sub_self]; rfl)

theorem snoc_of_ne {α : Type} : ∀ {l : List α}, l ≠ [] → ∃ a b, l = a ++ [b]
  | [], h => absurd rfl h
  | [x], _ => ⟨[], x, rfl⟩
  | x :: y :: r, _ => by
    obtain ⟨a, b, e⟩ := snoc_of_ne (l := y :: r) (by simp)
    exact ⟨x :: a, b, by rw [e]; rfl⟩

/-- Where the last '/' is, in the walk's words. -/
theorem last_up (p : ByteArray) : ∃ i : Int, Lib.lastIndex p.data.toList [47] = i ∧ -1 ≤ i ∧ i < p.size ∧
    p.extract 0 (max i 0).toNat = upB p := by
  obtain ⟨a, b, e⟩ := snoc_of_ne (Pl.sp_ne p.data.toList)
  have hb : (47 : UInt8) ∉ b := Pl.sp_clean _ b (by rw [e]; simp)
  have hu : Pl.up p.data.toList = Pl.jo a := by rw [Pl.up, e, List.dropLast_concat]
  obtain ⟨h1, h2⟩ := lastIdx_spec e
  by_cases ha : a = []
  · have hl := h1 ha
    refine ⟨-1, by rw [hl]; exact lastIndex_miss hb, by omega, by omega, ?_⟩
    apply ByteArray.ext
    apply Array.ext'
    rw [Lib.extract_data, upB, hu, ha]
    have e0 : (max (-1 : Int) 0).toNat = 0 := by decide
    rw [e0]
    simp [Pl.jo]
  · have hl := h2 ha
    have hsz : p.size = p.data.toList.length := by simp
    refine ⟨(Pl.jo a).length, by rw [hl]; exact lastIndex_hit hb, by omega, by rw [hsz, hl]; simp; omega, ?_⟩
    apply ByteArray.ext
    apply Array.ext'
    rw [Lib.extract_data, upB, hu, hl]
    simp

theorem lastIndex_any (p : ByteArray) (w : World) (hs : p.size ≤ 1048576) :
    Calls Tryd.prog 82 #[.string p, .string ⟨#[47]⟩] w fun e w' => e = .returned (.int .i64 (Lib.lastIndex p.data.toList [47])) ∧ w = w' :=
  (Tryd.strings_LastIndex p ⟨#[47]⟩ (by omega) w).mono fun _ _ ⟨h1, h2⟩ => ⟨h1, h2.symm⟩

theorem below_drewN {B : Nat} {a w : World} (h : Below B a w) (n : Nat) : Below B a (w.drewN n) := ⟨h.os, h.tape, h.output, h.size, h.block⟩

/-- What Up tells. -/
def upS (p : ByteArray) : ByteArray := if gpB p then upB p else ⟨#[]⟩
def PartsPost (p : ByteArray) (w : World) (e : Ending) (w' : World) : Prop :=
  (∃ b, e = .returned (.tuple #[.string (upS p), .string b, .bool (gpB p)])) ∧ Below w.heap.size w w'

theorem parts_any (p : ByteArray) (m : Int) (w : World) (hs : p.size ≤ 1048576) (hm : Mx m w) :
    Calls Tryd.prog 66 #[.string p] w (PartsPost p w) := by
  cases hg : gpB p with
  | false =>
    have HG := Lib.hid hg
    clear hg
    go_enter Tryd.func66, Tryd.ntmps66
    go_wp2_with (go_at_call 40; refine (good_any _ m _ hs hm).mono ?_; rintro e w1 ⟨rfl, hb1⟩; rw [HG.out])
    go_ret3
    exact ⟨⟨_, by rw [upS, HG.out]; rfl⟩, hb1⟩
  | true =>
    have HG := Lib.hid hg
    clear hg
    obtain ⟨i, hi, hi1, hi2, hi3⟩ := last_up p
    have HI := Lib.hid hi
    have HI3 := Lib.hid hi3
    clear hi hi3
    go_enter Tryd.func66, Tryd.ntmps66
    go_wp2_with (first
      | (go_at_call 40; refine (good_any _ m _ hs hm).mono ?_; rintro e w1 ⟨rfl, hb1⟩; rw [HG.out])
      | (go_at_call 82; refine (lastIndex_any _ _ hs).mono ?_; rintro e w2 ⟨rfl, rfl⟩; rw [HI.out]))
    go_quiet (fail)
    go_wp2
    go_ret3
    exact ⟨⟨_, by rw [upS, HG.out, if_pos rfl, ← HI3.out]; rfl⟩, below_drewN hb1 _⟩

theorem up_any (p : ByteArray) (m : Int) (w : World) (hs : p.size ≤ 1048576) (hm : Mx m w) :
    Calls Tryd.prog 38 #[.string p] w fun e w' => e = .returned (.tuple #[.string (upS p), .bool (gpB p)]) ∧ Below w.heap.size w w' := by
  go_enter Tryd.func38, Tryd.ntmps38
  go_wp2_with (go_at_call 66; refine (parts_any _ m _ hs hm).mono ?_; rintro e w1 ⟨⟨b, rfl⟩, hb1⟩)
  go_ret2
  exact ⟨rfl, hb1⟩
end Go.Proofs.YtpfmenepgejgdaaDoor
