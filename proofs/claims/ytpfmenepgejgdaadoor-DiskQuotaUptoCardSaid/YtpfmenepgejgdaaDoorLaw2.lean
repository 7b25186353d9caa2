/-
  PLAIN LAWS OF TREES: put in, taken out, moved. No program in sight. Own work.
-/
import Derived.Test.YtpfmenepgejgdaaDoorLaw
namespace Go.Proofs.YtpfmenepgejgdaaDoor
open Go.RowKit

/-- Taken out: the entry and the rest. -/
theorem er_perm {es : List Ent} (hs : Srt es) {d : Ent} (hd : d ∈ es) : es.Perm (d :: erE es d.path) := by
  have ht : there es d.path = true := there_iff.2 ⟨d, hd, rfl⟩
  obtain ⟨e, he, hb, hlt⟩ := there_some hs ht
  have hed : e = d := srt_uniq hs (List.mem_of_getElem? he) hd (bd_inj hb)
  obtain ⟨_, h2⟩ := List.getElem?_eq_some_iff.1 he
  have h3 : es = es.take (ahead es d.path) ++ d :: es.drop (ahead es d.path + 1) := by
    have h4 := List.drop_eq_getElem_cons hlt
    rw [h2, hed] at h4
    rw [← h4, List.take_append_drop]
  have := List.perm_middle (a := d) (l₁ := es.take (ahead es d.path)) (l₂ := es.drop (ahead es d.path + 1))
  rw [← h3] at this
  exact this
theorem er_mem {es : List Ent} (hs : Srt es) {d x : Ent} (hd : d ∈ es) : x ∈ erE es d.path ↔ x ∈ es ∧ x.path ≠ d.path := by
  have hp := er_perm hs hd
  constructor
  · intro hx
    have hxe := (erE_sub es d.path).subset hx
    refine ⟨hxe, fun h => ?_⟩
    have hxd : x = d := srt_uniq hs hxe hd h
    subst hxd
    have hn := (List.pairwise_cons.1 ((List.Perm.pairwise_iff (R := fun a b : Ent => a ≠ b) (fun h => h.symm) hp).1 (hs.imp (fun h he => by rw [he, Pl.pc_self] at h; omega)))).1 x hx
    exact hn rfl
  · rintro ⟨hx, hne⟩
    rcases List.mem_cons.1 (hp.subset hx) with h | h
    · rw [h] at hne; exact absurd rfl hne
    · exact h

/-- Put in where nothing stands. -/
theorem ins_perm {es : List Ent} {e : Ent} (h : there es e.path = false) : (insE es e).Perm (e :: es) := by
  rw [insE, h, if_neg (by simp)]
  have := List.perm_middle (a := e) (l₁ := es.take (ahead es e.path)) (l₂ := es.drop (ahead es e.path))
  rwa [List.take_append_drop] at this
theorem ins_srt {es : List Ent} {e : Ent} (hs : Srt es) (h : there es e.path = false) : Srt (insE es e) := by
  obtain ⟨h1, h2⟩ := ahead_parts e.path hs
  have h2' : ∀ x ∈ es.drop (ahead es e.path), Pl.pc (bd e.path) (bd x.path) < 0 := by
    intro x hx
    have hge := h2 x hx
    have hne : Pl.pc (bd x.path) (bd e.path) ≠ 0 := by
      intro h0
      have : there es e.path = true := there_iff.2 ⟨x, List.mem_of_mem_drop hx, pc_path.1 h0⟩
      rw [h] at this
      cases this
    have := Pl.pc_swap (bd e.path) (bd x.path)
    omega
  rw [insE, h, if_neg (by simp)]
  have hs2 := hs
  rw [← List.take_append_drop (ahead es e.path) es] at hs2
  obtain ⟨p1, p2, p3⟩ := List.pairwise_append.1 hs2
  refine List.pairwise_append.2 ⟨p1, List.pairwise_cons.2 ⟨h2', p2⟩, fun a ha b hb => ?_⟩
  rcases List.mem_cons.1 hb with rfl | hb
  · exact h1 a ha
  · exact p3 a ha b hb
/-- Put in where something stands. -/
theorem set_perm {es : List Ent} {e : Ent} (h : there es e.path = true) (hs : Srt es) : (insE es e).Perm (e :: erE es e.path) := by
  obtain ⟨x, hx, hb, hlt⟩ := there_some hs h
  rw [insE, if_pos h, erE, List.set_eq_take_append_cons_drop, if_pos hlt]
  exact List.perm_middle
theorem set_srt {es : List Ent} {e : Ent} (h : there es e.path = true) (hs : Srt es) : Srt (insE es e) := by
  obtain ⟨x, hx, hb, hlt⟩ := there_some hs h
  rw [insE, if_pos h]
  have hm : ∀ l : List Ent, Srt l ↔ (l.map (·.path)).Pairwise (fun a b => Pl.pc (bd a) (bd b) < 0) := fun l => by rw [List.pairwise_map]; rfl
  rw [hm] at hs ⊢
  have : (es.set (ahead es e.path) e).map (·.path) = es.map (·.path) := by
    rw [List.map_set]
    refine List.ext_getElem? fun i => ?_
    by_cases hi : ahead es e.path = i
    · subst hi
      rw [List.getElem?_set_self (by simpa using hlt), List.getElem?_map, hx, ← bd_inj hb]
      rfl
    · rw [List.getElem?_set_ne hi]
  rw [this]
  exact hs
theorem insE_srt {es : List Ent} {e : Ent} (hs : Srt es) : Srt (insE es e) := by
  cases h : there es e.path
  · exact ins_srt hs h
  · exact set_srt h hs
theorem insE_mem {es : List Ent} {e x : Ent} (hs : Srt es) : x ∈ insE es e ↔ x = e ∨ (x ∈ es ∧ x.path ≠ e.path) := by
  cases h : there es e.path
  · rw [(ins_perm h).mem_iff, List.mem_cons]
    constructor
    · rintro (h1 | h1)
      · exact .inl h1
      · refine .inr ⟨h1, fun h2 => ?_⟩
        have := there_iff.2 ⟨x, h1, h2⟩
        rw [h] at this
        cases this
    · rintro (h1 | h1)
      · exact .inl h1
      · exact .inr h1.1
  · rw [(set_perm h hs).mem_iff, List.mem_cons]
    obtain ⟨d, hd, hp⟩ := there_iff.1 h
    rw [← hp, er_mem hs hd]

/-- What with leaves. -/
theorem withE_cases (es : List Ent) (e : Ent) : (withE es e = (0, insE es e) ∧ upE es e.path = 0 ∧ dirAt es e.path = false ∧ fullE e (insE es e) = false) ∨ ((withE es e).1 ≠ 0 ∧ (withE es e).2 = es) := by
  unfold withE
  by_cases h1 : upE es e.path = 0
  · rw [if_pos h1]
    cases h2 : dirAt es e.path
    · cases h3 : fullE e (insE es e)
      · exact .inl ⟨rfl, h1, rfl, rfl⟩
      · exact .inr ⟨by simp, by simp⟩
    · exact .inr ⟨by simp, by simp⟩
  · rw [if_neg h1]
    exact .inr ⟨h1, rfl⟩
theorem fullE_false {e : Ent} {l : List Ent} (h : fullE e l = false) : l.length ≤ 40 ∧ e.b.length ≤ 2048 ∧ cnt l ≤ 16384 := by
  simp only [fullE, Bool.or_eq_false_iff, decide_eq_false_iff_not] at h
  omega
end Go.Proofs.YtpfmenepgejgdaaDoor
