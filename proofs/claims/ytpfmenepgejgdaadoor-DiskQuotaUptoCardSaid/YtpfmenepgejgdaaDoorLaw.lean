/-
  PLAIN LAWS OF TREES: sorted rows, what is put in and taken out. No program in sight. Own work.
-/
import Derived.Test.YtpfmenepgejgdaaDoorMove2
namespace Go.Proofs.YtpfmenepgejgdaaDoor
open Go.RowKit

theorem bd_inj {a b : ByteArray} (h : bd a = bd b) : a = b := by
  cases a; cases b
  simp only [bd] at h
  rw [ByteArray.mk.injEq]
  exact Array.toList_inj.1 h

/-- What stands at p. -/
def lk (es : List Ent) (p : ByteArray) : Option Ent := es.find? (fun e => e.path == p)
theorem pc_path {a b : ByteArray} : Pl.pc (bd a) (bd b) = 0 ↔ a = b := Pl.pc_eq.trans ⟨bd_inj, fun h => by rw [h]⟩

theorem ahead_cons (x : Ent) (r : List Ent) (p : ByteArray) : ahead (x :: r) p = if Pl.pc (bd x.path) (bd p) < 0 then ahead r p + 1 else ahead r p := by
  unfold ahead
  rw [List.countP_cons]
  by_cases h : Pl.pc (bd x.path) (bd p) < 0 <;> simp [h]
theorem srt_tail {x : Ent} {r : List Ent} (h : Srt (x :: r)) : Srt r := (List.pairwise_cons.1 h).2
theorem srt_head {x : Ent} {r : List Ent} (h : Srt (x :: r)) : ∀ e ∈ r, Pl.pc (bd x.path) (bd e.path) < 0 := (List.pairwise_cons.1 h).1

theorem ahead_zero {es : List Ent} {p : ByteArray} (h : ∀ e ∈ es, 0 ≤ Pl.pc (bd e.path) (bd p)) : ahead es p = 0 := by
  unfold ahead
  rw [List.countP_eq_zero]
  intro e he
  have := h e he
  simp; omega
/-- The row parts at ahead. -/
theorem ahead_parts : ∀ {es : List Ent} (p : ByteArray), Srt es → (∀ e ∈ es.take (ahead es p), Pl.pc (bd e.path) (bd p) < 0) ∧ (∀ e ∈ es.drop (ahead es p), 0 ≤ Pl.pc (bd e.path) (bd p))
  | [], p, _ => ⟨by simp, by simp⟩
  | x :: r, p, hs => by
    by_cases h : Pl.pc (bd x.path) (bd p) < 0
    · rw [ahead_cons, if_pos h]
      obtain ⟨h1, h2⟩ := ahead_parts p (srt_tail hs)
      refine ⟨fun e he => ?_, fun e he => ?_⟩
      · rw [List.take_succ_cons] at he
        rcases List.mem_cons.1 he with rfl | he
        · exact h
        · exact h1 e he
      · rw [List.drop_succ_cons] at he
        exact h2 e he
    · have hall : ∀ e ∈ x :: r, 0 ≤ Pl.pc (bd e.path) (bd p) := by
        intro e he
        rcases List.mem_cons.1 he with rfl | he
        · omega
        · have h3 := srt_head hs e he
          rcases Pl.pc_range (bd e.path) (bd p) with h4 | h4 | h4
          · exact absurd (Pl.pc_trans h3 (by omega)) h
          · omega
          · omega
      rw [ahead_zero hall]
      exact ⟨by simp, by simpa using hall⟩

/-- Two sorted rows of the same entries are one. -/
theorem srt_perm : ∀ {a b : List Ent}, Srt a → Srt b → a.Perm b → a = b
  | [], b, _, _, h => by rw [List.nil_perm.1 h]
  | x :: a, [], _, _, h => absurd h (by simp)
  | x :: a, y :: b, ha, hb, h => by
    have hxy : x = y := by
      have h1 : x ∈ y :: b := h.subset List.mem_cons_self
      have h2 : y ∈ x :: a := h.symm.subset List.mem_cons_self
      rcases List.mem_cons.1 h1 with h1 | h1
      · exact h1
      · rcases List.mem_cons.1 h2 with h2 | h2
        · exact h2.symm
        · have := Pl.pc_trans (srt_head ha y h2) (srt_head hb x h1)
          rw [Pl.pc_self] at this
          omega
    subst hxy
    rw [srt_perm (srt_tail ha) (srt_tail hb) (List.Perm.cons_inv h)]
theorem cnt_perm {a b : List Ent} (h : a.Perm b) : cnt a = cnt b := (h.map _).sum_nat

theorem there_iff {es : List Ent} {p : ByteArray} : there es p = true ↔ ∃ d ∈ es, d.path = p := by
  unfold there
  rw [List.any_eq_true]
  constructor
  · rintro ⟨d, hd, h⟩
    exact ⟨d, hd, pc_path.1 (by simpa using h)⟩
  · rintro ⟨d, hd, rfl⟩
    exact ⟨d, hd, by simp [Pl.pc_self]⟩
theorem srt_uniq {es : List Ent} (hs : Srt es) {a b : Ent} (ha : a ∈ es) (hb : b ∈ es) (h : a.path = b.path) : a = b := by
  induction es with
  | nil => cases ha
  | cons x r ih =>
    rcases List.mem_cons.1 ha with ha1 | ha1 <;> rcases List.mem_cons.1 hb with hb1 | hb1
    · rw [ha1, hb1]
    · subst ha1
      have := srt_head hs b hb1
      rw [h, Pl.pc_self] at this
      omega
    · subst hb1
      have := srt_head hs a ha1
      rw [h, Pl.pc_self] at this
      omega
    · exact ih (srt_tail hs) ha1 hb1
theorem at_of_mem {es : List Ent} (hs : Srt es) {d : Ent} (hd : d ∈ es) : atA es d.path = some d := by
  have ht : there es d.path = true := there_iff.2 ⟨d, hd, rfl⟩
  obtain ⟨e, he, hb, _⟩ := there_some hs ht
  have : e = d := srt_uniq hs (List.mem_of_getElem? he) hd (bd_inj hb)
  rw [atA, he, this]
/-- A directory stands there. -/
def DirIn (es : List Ent) (p : ByteArray) : Prop := ∃ d ∈ es, d.path = p ∧ d.dir = true
theorem dirAt_iff {es : List Ent} (hs : Srt es) {p : ByteArray} : dirAt es p = true ↔ DirIn es p := by
  unfold dirAt
  rw [Bool.and_eq_true]
  constructor
  · rintro ⟨h1, h2⟩
    obtain ⟨d, hd, rfl⟩ := there_iff.1 h1
    rw [at_of_mem hs hd] at h2
    exact ⟨d, hd, rfl, h2⟩
  · rintro ⟨d, hd, rfl, h⟩
    exact ⟨there_iff.2 ⟨d, hd, rfl⟩, by rw [at_of_mem hs hd]; exact h⟩
/-- What p lies in may hold it. -/
def UpIn (es : List Ent) (p : ByteArray) : Prop := bd (upS p) = [] ∨ DirIn es (upS p)
theorem ba_nil {p : ByteArray} : (p.toList == []) = true ↔ bd p = [] := by
  rw [Lib.toList_data]
  simp [bd]
theorem upE_iff {es : List Ent} (hs : Srt es) {p : ByteArray} : upE es p = 0 ↔ UpIn es p := by
  unfold upE UpIn
  by_cases h0 : ((upS p).toList == []) = true
  · rw [if_pos h0]
    exact ⟨fun _ => .inl (ba_nil.1 h0), fun _ => rfl⟩
  · rw [if_neg h0]
    have h1 : bd (upS p) ≠ [] := fun h => h0 (ba_nil.2 h)
    constructor
    · intro h
      split at h
      · rename_i ht
        obtain ⟨d, hd, hp⟩ := there_iff.1 ht
        rw [← hp, at_of_mem hs hd] at h
        refine .inr ⟨d, hd, hp, ?_⟩
        cases hdd : d.dir
        · simp [hdd] at h
        · rfl
      · omega
    · rintro (h | ⟨d, hd, hp, hdd⟩)
      · exact absurd h h1
      · rw [if_pos (there_iff.2 ⟨d, hd, hp⟩), ← hp, at_of_mem hs hd]
        simp [hdd]

theorem gpB_ne {p : ByteArray} (h : gpB p = true) : bd p ≠ [] := by
  intro h0
  have : Pl.gp (bd p) = true := h
  rw [h0, Pl.gp_nil] at this
  cases this
/-- What a path lies in is ahead of it. -/
theorem pc_up {p : ByteArray} (h : gpB p = true) (hu : bd (upS p) ≠ []) : Pl.pc (bd (upS p)) (bd p) < 0 := by
  have e1 : upS p = upB p := by rw [upS, if_pos h]
  have e2 : bd (upS p) = Pl.up (bd p) := by rw [e1]; rfl
  rw [e2] at hu ⊢
  obtain ⟨a, b, e⟩ := snoc_of_ne (Pl.sp_ne (bd p))
  have hup : Pl.up (bd p) = Pl.jo a := by rw [Pl.up, e, List.dropLast_concat]
  have ha : a ≠ [] := by
    rintro rfl
    rw [hup] at hu
    exact hu rfl
  have hsp : Pl.sp (Pl.jo a) = a := Pl.sp_jo a ha (fun n hn => Pl.sp_clean (bd p) n (by rw [e]; exact List.mem_append_left _ hn))
  rw [hup, Pl.pc, hsp, e, Pl.cl_pre a [b] (by simp)]
  decide

/-- An entry may stand in es. -/
def EOk (es : List Ent) (e : Ent) : Prop := gpB e.path = true ∧ UpIn es e.path ∧ ¬ (e.dir = true ∧ 0 < e.b.length) ∧ e.b.length ≤ 2048
def GInv (f : Pl.Bs → Bool) (pre : List Ent) : Prop := ∀ p, f p = true ↔ p = [] ∨ ∃ d ∈ pre, bd d.path = p ∧ d.dir = true
theorem srt_snoc {pre : List Ent} {e : Ent} : Srt (pre ++ [e]) ↔ Srt pre ∧ ahd pre.getLast? e = true ∧ True := by
  unfold Srt
  rw [List.pairwise_append]
  constructor
  · rintro ⟨h1, _, h3⟩
    refine ⟨h1, ?_, trivial⟩
    cases hl : pre.getLast? with
    | none => rfl
    | some x => simpa [ahd] using h3 x (List.mem_of_getLast? hl) e List.mem_cons_self
  · rintro ⟨h1, h2, _⟩
    refine ⟨h1, by simp, fun a ha b hb => ?_⟩
    rw [List.mem_singleton] at hb
    subst hb
    cases hl : pre.getLast? with
    | none => rw [List.getLast?_eq_none_iff.1 hl] at ha; cases ha
    | some x =>
      rw [hl] at h2
      have hx : Pl.pc (bd x.path) (bd b.path) < 0 := by simpa [ahd] using h2
      obtain ⟨ys, rfl⟩ := List.getLast?_eq_some_iff.1 hl
      rcases List.mem_append.1 ha with ha | ha
      · exact Pl.pc_trans ((List.pairwise_append.1 h1).2.2 a ha x List.mem_cons_self) hx
      · rw [List.mem_singleton] at ha
        rw [ha]; exact hx
theorem goodFrom_iff : ∀ (l pre : List Ent) (f : Pl.Bs → Bool), GInv f pre → Srt pre → (∀ d ∈ pre, gpB d.path = true) →
    (goodFrom f pre.getLast? l = true ↔ Srt (pre ++ l) ∧ ∀ e ∈ l, EOk (pre ++ l) e)
  | [], pre, f, _, hs, _ => by simp [goodFrom, hs]
  | e :: r, pre, f, hf, hs, hg => by
    have eap : pre ++ e :: r = (pre ++ [e]) ++ r := by simp
    rw [goodFrom_cons, Bool.and_eq_true, stepOk_eq]
    simp only [Bool.and_eq_true, decide_eq_true_eq, Bool.not_eq_true', Bool.and_eq_false_iff, decide_eq_false_iff_not]
    have key : ∀ (hge : gpB e.path = true) (hse : Srt (pre ++ [e])), (goodFrom (fun p => if p = bd e.path then e.dir else f p) (some e) r = true ↔ Srt (pre ++ e :: r) ∧ ∀ x ∈ r, EOk (pre ++ e :: r) x) := by
      intro hge hse
      have := goodFrom_iff r (pre ++ [e]) (fun p => if p = bd e.path then e.dir else f p) ?_ hse ?_
      · rw [List.getLast?_concat, ← eap] at this
        exact this
      · intro p
        by_cases hp : p = bd e.path
        · subst hp
          simp only [if_pos]
          constructor
          · intro hd
            exact .inr ⟨e, List.mem_append_right _ List.mem_cons_self, rfl, hd⟩
          · rintro (h | ⟨d, hd, hpd, hdd⟩)
            · exact absurd h (gpB_ne hge)
            · have : d = e := srt_uniq hse hd (List.mem_append_right _ List.mem_cons_self) (bd_inj hpd)
              rw [← this]; exact hdd
        · show (if p = bd e.path then e.dir else f p) = true ↔ _
          rw [if_neg hp, hf p]
          constructor
          · rintro (h | ⟨d, hd, h⟩)
            · exact .inl h
            · exact .inr ⟨d, List.mem_append_left _ hd, h⟩
          · rintro (h | ⟨d, hd, hpd, hdd⟩)
            · exact .inl h
            · rcases List.mem_append.1 hd with hd | hd
              · exact .inr ⟨d, hd, hpd, hdd⟩
              · rw [List.mem_singleton] at hd
                subst hd
                exact absurd hpd.symm hp
      · intro d hd
        rcases List.mem_append.1 hd with hd | hd
        · exact hg d hd
        · rw [List.mem_singleton] at hd
          rw [hd]; exact hge
    constructor
    · rintro ⟨⟨⟨⟨⟨h1, h2⟩, h3⟩, h4⟩, h5⟩, h6⟩
      have hse : Srt (pre ++ [e]) := srt_snoc.2 ⟨hs, h5, trivial⟩
      obtain ⟨k1, k2⟩ := (key h1 hse).1 h6
      refine ⟨k1, fun x hx => ?_⟩
      rcases List.mem_cons.1 hx with rfl | hx
      · refine ⟨h1, ?_, ?_, h4⟩
        · rcases (hf _).1 h2 with h | ⟨d, hd, hpd, hdd⟩
          · exact .inl h
          · exact .inr ⟨d, List.mem_append_left _ hd, bd_inj hpd, hdd⟩
        · rintro ⟨q1, q2⟩
          rcases h3 with h3 | h3
          · rw [q1] at h3; cases h3
          · exact h3 q2
      · exact k2 x hx
    · rintro ⟨h1, h2⟩
      have hse : Srt (pre ++ [e]) := by
        rw [eap] at h1
        exact (List.pairwise_append.1 h1).1
      obtain ⟨o1, o2, o3, o4⟩ := h2 e List.mem_cons_self
      refine ⟨⟨⟨⟨⟨o1, ?_⟩, ?_⟩, o4⟩, (srt_snoc.1 hse).2.1⟩, (key o1 hse).2 ⟨h1, fun x hx => h2 x (List.mem_cons_of_mem _ hx)⟩⟩
      · rw [hf]
        rcases o2 with h | ⟨d, hd, hpd, hdd⟩
        · exact .inl h
        · by_cases hun : bd (upS e.path) = []
          · exact .inl hun
          · have hlt := pc_up o1 hun
            rw [← hpd] at hlt
            refine .inr ⟨d, ?_, by rw [hpd], hdd⟩
            rcases List.mem_append.1 hd with hd | hd
            · exact hd
            · rcases List.mem_cons.1 hd with rfl | hd
              · rw [Pl.pc_self] at hlt; omega
              · have h3 := (List.pairwise_append.1 h1).2.1
                have := Pl.pc_trans hlt (srt_head h3 d hd)
                rw [Pl.pc_self] at this
                omega
      · rcases Bool.eq_false_or_eq_true e.dir with hd | hd
        · exact .inr (fun hq => o3 ⟨hd, hq⟩)
        · exact .inl hd
theorem goodT_iff {es : List Ent} : goodT es = true ↔ es.length ≤ 40 ∧ cnt es ≤ 16384 ∧ Srt es ∧ ∀ e ∈ es, EOk es e := by
  have h := goodFrom_iff es [] (fun p => p.isEmpty) (fun p => by cases p <;> simp) .nil (by simp)
  rw [List.nil_append] at h
  rw [goodT]
  simp only [Bool.and_eq_true, decide_eq_true_eq]
  rw [← h]
  simp [and_assoc]
end Go.Proofs.YtpfmenepgejgdaaDoor
