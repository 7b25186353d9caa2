/-
  PLAIN LAWS OF TREES: Move there and back. No program in sight. Own work.
-/
import Derived.Test.YtpfmenepgejgdaaDoorLaw2
namespace Go.Proofs.YtpfmenepgejgdaaDoor
open Go.RowKit

def EGood (es : List Ent) : Prop := Srt es ∧ ∀ x ∈ es, EOk es x
theorem goodT_eg {es : List Ent} : goodT es = true ↔ es.length ≤ 40 ∧ cnt es ≤ 16384 ∧ EGood es := goodT_iff
theorem with_eg {es : List Ent} {e : Ent} (hs : EGood es) (hp : gpB e.path = true) (hd : ¬ (e.dir = true ∧ 0 < e.b.length)) (h0 : UpIn es e.path) (h1 : dirAt es e.path = false) (h2 : e.b.length ≤ 2048) : EGood (insE es e) := by
  refine ⟨insE_srt hs.1, fun x hx => ?_⟩
  rcases (insE_mem hs.1).1 hx with rfl | ⟨hx, hne⟩
  · refine ⟨hp, ?_, hd, h2⟩
    by_cases hu : bd (upS x.path) = []
    · exact .inl hu
    · rcases h0 with h | ⟨d, hdm, hdp, hdd⟩
      · exact .inl h
      · refine .inr ⟨d, (insE_mem hs.1).2 (.inr ⟨hdm, fun h => ?_⟩), hdp, hdd⟩
        have := pc_up hp hu
        rw [← hdp, h, Pl.pc_self] at this
        omega
  · obtain ⟨o1, o2, o3, o4⟩ := hs.2 x hx
    refine ⟨o1, ?_, o3, o4⟩
    rcases o2 with h | ⟨d, hdm, hdp, hdd⟩
    · exact .inl h
    · refine .inr ⟨d, (insE_mem hs.1).2 (.inr ⟨hdm, fun h => ?_⟩), hdp, hdd⟩
      have : dirAt es e.path = true := (dirAt_iff hs.1).2 ⟨d, hdm, h, hdd⟩
      rw [h1] at this
      cases this
theorem with_good {es : List Ent} {e : Ent} (hs : EGood es) (hp : gpB e.path = true) (hd : ¬ (e.dir = true ∧ 0 < e.b.length)) (h : (withE es e).1 = 0) : goodT (withE es e).2 = true ∧ withE es e = (0, insE es e) := by
  rcases withE_cases es e with ⟨he, h0, h1, h2⟩ | ⟨hne, _⟩
  · obtain ⟨f1, f2, f3⟩ := fullE_false h2
    refine ⟨?_, he⟩
    rw [he]
    exact goodT_eg.2 ⟨f1, f3, with_eg hs hp hd ((upE_iff hs.1).1 h0) h1 f2⟩
  · exact absurd h hne
/-- A file taken out. -/
theorem er_eg {es : List Ent} {d : Ent} (hs : EGood es) (hd : d ∈ es) (hdd : d.dir = false) : EGood (erE es d.path) := by
  refine ⟨erE_srt _ hs.1, fun x hx => ?_⟩
  obtain ⟨hx, _⟩ := (er_mem hs.1 hd).1 hx
  obtain ⟨o1, o2, o3, o4⟩ := hs.2 x hx
  refine ⟨o1, ?_, o3, o4⟩
  rcases o2 with h | ⟨y, hym, hyp, hyd⟩
  · exact .inl h
  · refine .inr ⟨y, (er_mem hs.1 hd).2 ⟨hym, fun h => ?_⟩, hyp, hyd⟩
    have : y = d := srt_uniq hs.1 hym hd h
    rw [this, hdd] at hyd
    cases hyd

theorem toList_beq {a b : ByteArray} : (a.toList == b.toList) = true ↔ a = b := by
  rw [beq_iff_eq]
  exact ⟨fun h => bd_inj (by rw [bd, bd, ← Lib.toList_data, ← Lib.toList_data]; exact h), fun h => by rw [h]⟩
theorem move_err (l : List Ent) (p q : ByteArray) (h : (moveE l p q).1 ≠ 0) : (moveE l p q).2 = l := by
  unfold moveE at h ⊢
  split
  · split
    · split
      · split
        · rfl
        · split
          · rfl
          · unfold mv1
            split
            · rename_i h1 h2 h3 h4 h5 h6
              rw [if_pos h1, if_pos h2, if_pos h3, if_neg h4, if_neg h5, mv1, if_pos h6] at h
              exact absurd rfl h
            · rfl
      · rfl
    · rfl
  · rfl

/-- What a Move that went says. -/
theorem move_ok {l : List Ent} {p q : ByteArray} (h : (moveE l p q).1 = 0) : goodT l = true ∧ gpB p = true ∧ gpB q = true ∧ ∃ d ∈ l, d.path = p ∧ d.dir = false ∧ ((p = q ∧ (moveE l p q).2 = l) ∨
    (p ≠ q ∧ (withE (erE l p) ⟨q, false, d.b⟩).1 = 0 ∧ (moveE l p q).2 = (withE (erE l p) ⟨q, false, d.b⟩).2)) := by
  unfold moveE at h ⊢
  by_cases h1 : goodT l = true
  · rw [if_pos h1] at h ⊢
    have hs := (goodT_eg.1 h1).2.2
    by_cases h2 : (gpB p && gpB q) = true
    · rw [if_pos h2] at h ⊢
      rw [Bool.and_eq_true] at h2
      by_cases h3 : there l p = true
      · rw [if_pos h3] at h ⊢
        obtain ⟨d, hd, hdp⟩ := there_iff.1 h3
        by_cases h4 : dirAt l p = true
        · rw [if_pos h4] at h
          simp at h
        · rw [if_neg h4] at h ⊢
          have hdd : d.dir = false := by
            cases hx : d.dir
            · rfl
            · exact absurd ((dirAt_iff hs.1).2 ⟨d, hd, hdp, hx⟩) h4
          have hb : bAt l p = d.b := by rw [bAt, ← hdp, at_of_mem hs.1 hd]; rfl
          by_cases h5 : (p.toList == q.toList) = true
          · rw [if_pos h5] at h ⊢
            exact ⟨h1, h2.1, h2.2, d, hd, hdp, hdd, .inl ⟨toList_beq.1 h5, rfl⟩⟩
          · rw [if_neg h5, hb] at h ⊢
            refine ⟨h1, h2.1, h2.2, d, hd, hdp, hdd, .inr ⟨fun h => h5 (toList_beq.2 h), ?_⟩⟩
            unfold mv1 at h ⊢
            by_cases h6 : (withE (erE l p) ⟨q, false, d.b⟩).1 = 0
            · rw [if_pos h6]
              exact ⟨h6, rfl⟩
            · rw [if_neg h6] at h
              exact absurd h h6
      · rw [if_neg h3] at h
        simp at h
    · rw [if_neg h2] at h
      simp at h
  · rw [if_neg h1] at h
    simp at h
theorem move_good {l : List Ent} {p q : ByteArray} (h : (moveE l p q).1 = 0) : goodT (moveE l p q).2 = true := by
  obtain ⟨h1, h2, h3, d, hd, hdp, hdd, h4 | ⟨_, h4, h5⟩⟩ := move_ok h
  · rw [h4.2]; exact h1
  · rw [h5]
    have hs := (goodT_eg.1 h1).2.2
    have he := er_eg hs hd hdd
    rw [hdp] at he
    exact (with_good he h3 (by simp) h4).1

theorem moveE_go {l : List Ent} {p q : ByteArray} {d : Ent} (h1 : goodT l = true) (h2 : gpB p = true) (h3 : gpB q = true) (hd : d ∈ l) (hdp : d.path = p) (hdd : d.dir = false) (hne : p ≠ q) : moveE l p q = mv1 l (withE (erE l p) ⟨q, false, d.b⟩) := by
  have hs := (goodT_eg.1 h1).2.2
  have h4 : ¬ dirAt l p = true := by
    intro h
    obtain ⟨x, hx, hxp, hxd⟩ := (dirAt_iff hs.1).1 h
    have : x = d := srt_uniq hs.1 hx hd (by rw [hxp, hdp])
    rw [this, hdd] at hxd
    cases hxd
  have hb : bAt l p = d.b := by rw [bAt, ← hdp, at_of_mem hs.1 hd]; rfl
  rw [moveE, if_pos h1, if_pos (by rw [h2, h3]; rfl), if_pos (there_iff.2 ⟨d, hd, hdp⟩), if_neg h4, if_neg (fun h => hne (toList_beq.1 h)), hb]

/-- There and back. -/
theorem move_back {l : List Ent} {p q : ByteArray} (h : (moveE l p q).1 = 0) (hf : findE l q = 5) :
    moveE (moveE l p q).2 q p = (0, l) ∧ cnt (moveE l p q).2 = cnt l ∧ (moveE l p q).2.length = l.length := by
  obtain ⟨h1, h2, h3, d, hd, hdp, hdd, h4⟩ := move_ok h
  have hs := (goodT_eg.1 h1).2.2
  have hq : there l q = false := by
    rw [findE, if_pos h1, if_pos h3] at hf
    cases ht : there l q
    · rfl
    · rw [ht] at hf; simp at hf
  have hne : p ≠ q := by
    intro e
    have : there l q = true := there_iff.2 ⟨d, hd, by rw [hdp, e]⟩
    rw [hq] at this
    cases this
  obtain ⟨h5, h6⟩ : (withE (erE l p) ⟨q, false, d.b⟩).1 = 0 ∧ (moveE l p q).2 = (withE (erE l p) ⟨q, false, d.b⟩).2 := by
    rcases h4 with h4 | h4
    · exact absurd h4.1 hne
    · exact h4.2
  have he : EGood (erE l p) := by rw [← hdp]; exact er_eg hs hd hdd
  obtain ⟨g1, g2⟩ := with_good he h3 (by simp) h5
  rw [g2] at h6 g1
  -- the tree behind
  obtain ⟨l', hl'⟩ : ∃ l', l' = insE (erE l p) ⟨q, false, d.b⟩ := ⟨_, rfl⟩
  have hg' : goodT l' = true := by rw [hl']; exact g1
  have h6' : (moveE l p q).2 = l' := by rw [h6, hl']
  have hqe : there (erE l p) q = false := by
    cases ht : there (erE l p) q
    · rfl
    · obtain ⟨x, hx, hxq⟩ := there_iff.1 ht
      have : there l q = true := there_iff.2 ⟨x, (erE_sub l p).subset hx, hxq⟩
      rw [hq] at this
      cases this
  have hperm : l'.Perm (⟨q, false, d.b⟩ :: erE l p) := by rw [hl']; exact ins_perm hqe
  have hperm2 : l.Perm (d :: erE l p) := by rw [← hdp]; exact er_perm hs.1 hd
  have hs' := (goodT_eg.1 hg').2.2
  have hnew : (⟨q, false, d.b⟩ : Ent) ∈ l' := hperm.symm.subset List.mem_cons_self
  have hback : erE l' q = erE l p := by
    refine srt_perm (erE_srt _ hs'.1) he.1 ?_
    have := er_perm hs'.1 hnew
    exact List.Perm.cons_inv (this.symm.trans hperm)
  have hdl : (⟨p, false, d.b⟩ : Ent) = d := by
    cases d
    simp only at hdp hdd
    rw [hdp, hdd]
  have hpe : there (erE l p) p = false := by
    cases ht : there (erE l p) p
    · rfl
    · obtain ⟨x, hx, hxp⟩ := there_iff.1 ht
      rw [← hdp] at hx hxp
      exact absurd hxp ((er_mem hs.1 hd).1 hx).2
  have hins : insE (erE l p) ⟨p, false, d.b⟩ = l := by
    refine srt_perm (insE_srt he.1) hs.1 ?_
    refine (ins_perm (e := ⟨p, false, d.b⟩) hpe).trans ?_
    rw [hdl]
    exact hperm2.symm
  have hw : withE (erE l p) ⟨p, false, d.b⟩ = (0, l) := by
    have o := hs.2 d hd
    unfold EOk at o
    rw [hdp] at o
    have hup : upE (erE l p) p = 0 := by
      rw [upE_iff he.1]
      rcases o.2.1 with hx | ⟨y, hy, hyp, hyd⟩
      · exact .inl hx
      · refine .inr ⟨y, ?_, hyp, hyd⟩
        rw [← hdp]
        refine (er_mem hs.1 hd).2 ⟨hy, fun e => ?_⟩
        have : y = d := srt_uniq hs.1 hy hd e
        rw [this, hdd] at hyd
        cases hyd
    have hdn : dirAt (erE l p) p = false := by rw [dirAt, hpe]; rfl
    have hfu : fullE ⟨p, false, d.b⟩ l = false := by
      have := goodT_eg.1 h1
      simp only [fullE, Bool.or_eq_false_iff, decide_eq_false_iff_not]
      have := o.2.2.2
      omega
    rw [withE, if_pos hup, hdn, hins, hfu]
    rfl
  refine ⟨?_, ?_, ?_⟩
  · rw [h6', moveE_go hg' h3 h2 hnew rfl rfl hne.symm, hback, hw, mv1, if_pos rfl]
  · rw [h6', cnt_perm hperm, cnt_perm hperm2, cnt_cons, cnt_cons]
  · rw [h6', hperm.length_eq, hperm2.length_eq]
    rfl
theorem alk_self : ∀ l : List Ent, alk l l = true
  | [] => rfl
  | x :: r => by rw [alk, alk_self r, same1]; simp
theorem sameT_self {l : List Ent} (h : goodT l = true) : sameT l l = true := by rw [sameT, h, alk_self]; rfl
end Go.Proofs.YtpfmenepgejgdaaDoor
