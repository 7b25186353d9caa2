/-
  PLAIN LAWS: what a change of a tree leaves may be. No program in sight. Own work.
-/
import Derived.Test.YtpfmenepgejgdaaDoorDone
namespace Go.Proofs.YtpfmenepgejgdaaDoor
open Go.RowKit

theorem withE_fst {es : List Ent} {e : Ent} : (withE es e).1 = 0 ∨ (withE es e).1 ≠ 0 := by omega
theorem put_good {es : List Ent} {p : ByteArray} {b : List UInt8} (h : (putE es p b).1 = 0) : goodT (putE es p b).2 = true := by
  unfold putE at h ⊢
  by_cases h1 : goodT es = true
  · rw [if_pos h1] at h ⊢
    by_cases h2 : gpB p = true
    · rw [if_pos h2] at h ⊢
      exact (with_good (goodT_eg.1 h1).2.2 h2 (by simp) h).1
    · rw [if_neg h2] at h; simp at h
  · rw [if_neg h1] at h; simp at h
theorem findE_five {es : List Ent} {p : ByteArray} (h : findE es p = 5) : goodT es = true ∧ gpB p = true ∧ there es p = false := by
  unfold findE at h
  cases hg : goodT es
  · rw [hg] at h; simp at h
  · rw [hg] at h
    cases hp : gpB p
    · rw [hp] at h; simp at h
    · rw [hp] at h
      cases ht : there es p
      · exact ⟨rfl, rfl, rfl⟩
      · rw [ht] at h; simp at h
theorem make_good {es : List Ent} {p : ByteArray} (h : (makeE es p).1 = 0) : goodT (makeE es p).2 = true := by
  unfold makeE at h ⊢
  by_cases h1 : findE es p = 0
  · rw [if_pos h1] at h; simp at h
  · rw [if_neg h1] at h ⊢
    by_cases h2 : findE es p = 5
    · rw [if_pos h2] at h ⊢
      obtain ⟨hg, hp, _⟩ := findE_five h2
      exact (with_good (goodT_eg.1 hg).2.2 hp (by simp) h).1
    · rw [if_neg h2] at h
      exact absurd h h1
theorem isKid_iff {p : ByteArray} {e : Ent} : isKid p e = true ↔ upS e.path = p := toList_beq
/-- An entry without kids taken out. -/
theorem er_eg2 {es : List Ent} {d : Ent} (hs : EGood es) (hd : d ∈ es) (hk : ∀ x ∈ es, upS x.path ≠ d.path) : EGood (erE es d.path) := by
  refine ⟨erE_srt _ hs.1, fun x hx => ?_⟩
  obtain ⟨hx, _⟩ := (er_mem hs.1 hd).1 hx
  obtain ⟨o1, o2, o3, o4⟩ := hs.2 x hx
  refine ⟨o1, ?_, o3, o4⟩
  rcases o2 with h | ⟨y, hym, hyp, hyd⟩
  · exact .inl h
  · exact .inr ⟨y, (er_mem hs.1 hd).2 ⟨hym, fun h => hk x hx (by rw [← hyp, h])⟩, hyp, hyd⟩
theorem cnt_er {es : List Ent} (p : ByteArray) : cnt (erE es p) ≤ cnt es := cnt_sub (erE_sub es p)
theorem kids_none {es : List Ent} {p : ByteArray} (hg : goodT es = true) (h : ¬ 0 < (kidsE es p).length) : ∀ x ∈ es, upS x.path ≠ p := by
  intro x hx e
  rw [kidsE, if_pos hg] at h
  have : x ∈ es.filter (isKid p) := List.mem_filter.2 ⟨hx, isKid_iff.2 e⟩
  have := List.length_pos_of_mem this
  rw [List.length_map] at h
  exact h this
theorem remove_good {es : List Ent} {p : ByteArray} (h : (removeE es p).1 = 0) : goodT (removeE es p).2 = true := by
  unfold removeE at h ⊢
  by_cases h1 : findE es p = 0
  · rw [if_pos h1] at h ⊢
    by_cases h2 : 0 < (kidsE es p).length
    · rw [if_pos h2] at h; simp at h
    · rw [if_neg h2]
      obtain ⟨hg, ht⟩ := findE_there h1
      obtain ⟨d, hd, hp⟩ := there_iff.1 ht
      obtain ⟨g1, g2, g3⟩ := goodT_eg.1 hg
      have hk := kids_none hg h2
      show goodT (erE es p) = true
      rw [← hp] at hk ⊢
      refine goodT_eg.2 ⟨Nat.le_trans (erE_sub es d.path).length_le g1, Nat.le_trans (cnt_er _) g2, er_eg2 g3 hd hk⟩
  · rw [if_neg h1] at h
    exact absurd h h1
theorem done_good {es : List Ent} {c : Chg} (h : (doneE es c).1 = 0) : goodT (doneE es c).2 = true := by
  unfold doneE at h ⊢
  by_cases h1 : c.op = 1
  · rw [if_pos h1] at h ⊢; exact put_good h
  rw [if_neg h1] at h ⊢
  by_cases h2 : c.op = 2
  · rw [if_pos h2] at h ⊢; exact make_good h
  rw [if_neg h2] at h ⊢
  by_cases h3 : c.op = 3
  · rw [if_pos h3] at h ⊢; exact remove_good h
  rw [if_neg h3] at h ⊢
  by_cases h4 : c.op = 4
  · rw [if_pos h4] at h ⊢; exact move_good h
  rw [if_neg h4] at h
  simp at h
end Go.Proofs.YtpfmenepgejgdaaDoor
