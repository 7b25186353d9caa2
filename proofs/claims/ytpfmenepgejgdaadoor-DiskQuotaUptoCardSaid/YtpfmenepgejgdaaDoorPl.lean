/-
  PLAIN LAWS ON PATHS AND ON THE ORDER OF PATHS: no program in sight. Own work.
-/
import Derived.Lib.Split
import Derived.Lib.SlTrimSet
namespace Go.Proofs.YtpfmenepgejgdaaDoor.Pl

abbrev Bs := List UInt8

/-- A text's names: parted at each '/'. -/
def sp : Bs → List Bs
  | [] => [[]]
  | c :: r => if c = 47 then [] :: sp r else
    match sp r with
    | h :: t => (c :: h) :: t
    | [] => [[c]]

theorem sp_ne (l : Bs) : sp l ≠ [] := by
  cases l with
  | nil => simp [sp]
  | cons c r =>
    unfold sp
    split
    · simp
    · split <;> simp

/-- Names put together again. -/
def jo : List Bs → Bs
  | [] => []
  | [a] => a
  | a :: b :: r => a ++ 47 :: jo (b :: r)

theorem jo_cons {a : Bs} {l : List Bs} (h : l ≠ []) : jo (a :: l) = a ++ 47 :: jo l := by
  cases l with
  | nil => exact absurd rfl h
  | cons b r => rfl

theorem jo_sp (l : Bs) : jo (sp l) = l := by
  induction l with
  | nil => rfl
  | cons c r ih =>
    unfold sp
    by_cases hc : c = 47
    · rw [if_pos hc, jo_cons (sp_ne r), ih, hc]; rfl
    · rw [if_neg hc]
      have hn := sp_ne r
      cases hs : sp r with
      | nil => exact absurd hs hn
      | cons h t =>
        rw [hs] at ih
        simp only
        cases t with
        | nil => simp only [jo] at ih ⊢; rw [ih]
        | cons b u => simp only [jo] at ih ⊢; rw [List.cons_append, ih]

theorem sp_inj {a b : Bs} (h : sp a = sp b) : a = b := by rw [← jo_sp a, ← jo_sp b, h]

/-- No name has a '/'. -/
theorem sp_clean (l : Bs) : ∀ n ∈ sp l, (47 : UInt8) ∉ n := by
  induction l with
  | nil => simp [sp]
  | cons c r ih =>
    unfold sp
    by_cases hc : c = 47
    · rw [if_pos hc]
      intro n hn
      rcases List.mem_cons.1 hn with rfl | hn
      · simp
      · exact ih n hn
    · rw [if_neg hc]
      have hn := sp_ne r
      cases hs : sp r with
      | nil => exact absurd hs hn
      | cons h t =>
        rw [hs] at ih
        simp only
        intro n hn
        rcases List.mem_cons.1 hn with rfl | hn
        · intro hm
          rcases List.mem_cons.1 hm with e | hm
          · exact hc e.symm
          · exact ih h List.mem_cons_self hm
        · exact ih n (List.mem_cons_of_mem _ hn)

theorem sp_app {a : Bs} (h : (47 : UInt8) ∉ a) (l : Bs) : sp (a ++ l) = (match sp l with | x :: t => (a ++ x) :: t | [] => [a]) := by
  induction a with
  | nil =>
    have := sp_ne l
    cases hs : sp l with
    | nil => exact absurd hs this
    | cons x t => simp [hs]
  | cons c r ih =>
    have hc : c ≠ 47 := fun e => h (by simp [e])
    have hr : (47 : UInt8) ∉ r := fun e => h (List.mem_cons_of_mem _ e)
    rw [List.cons_append, sp, if_neg hc, ih hr]
    have := sp_ne l
    cases hs : sp l with
    | nil => exact absurd hs this
    | cons x t => simp

theorem sp_one {a : Bs} (h : (47 : UInt8) ∉ a) : sp a = [a] := by
  have := sp_app h []
  simpa [sp] using this

theorem sp_jo : ∀ (l : List Bs), l ≠ [] → (∀ n ∈ l, (47 : UInt8) ∉ n) → sp (jo l) = l
  | [], h, _ => absurd rfl h
  | [a], _, h => by rw [jo]; exact sp_one (h a List.mem_cons_self)
  | a :: b :: r, _, h => by
    have ih := sp_jo (b :: r) (by simp) (fun n hn => h n (List.mem_cons_of_mem _ hn))
    rw [jo, sp_app (h a List.mem_cons_self)]
    have e : sp (47 :: jo (b :: r)) = [] :: sp (jo (b :: r)) := by rw [sp, if_pos rfl]
    rw [e, ih]
    simp

theorem jo_inj {a b : List Bs} (ha : a ≠ []) (hb : b ≠ []) (h1 : ∀ n ∈ a, (47 : UInt8) ∉ n) (h2 : ∀ n ∈ b, (47 : UInt8) ∉ n) (h : jo a = jo b) : a = b := by
  rw [← sp_jo a ha h1, ← sp_jo b hb h2, h]

/-! ### the order of texts, and of lists of texts -/
/-- Byte by byte. -/
def bl : Bs → Bs → Bool
  | _, [] => false
  | [], _ :: _ => true
  | a :: x, b :: y => a < b || (a == b && bl x y)

theorem bl_irr (a : Bs) : bl a a = false := by
  induction a with
  | nil => rfl
  | cons c r ih => simp [bl, ih]

theorem bl_trans : ∀ {a b c : Bs}, bl a b = true → bl b c = true → bl a c = true
  | a, [], c, h, _ => by cases a <;> simp [bl] at h
  | a, b :: y, [], _, h => by simp [bl] at h
  | [], b :: y, c :: z, _, _ => rfl
  | a :: x, b :: y, c :: z, h1, h2 => by
    simp only [bl, Bool.or_eq_true, decide_eq_true_eq, Bool.and_eq_true, beq_iff_eq] at h1 h2 ⊢
    rcases h1 with h1 | ⟨rfl, h1⟩
    · rcases h2 with h2 | ⟨rfl, h2⟩
      · exact .inl (UInt8.lt_trans h1 h2)
      · exact .inl h1
    · rcases h2 with h2 | ⟨rfl, h2⟩
      · exact .inl h2
      · exact .inr ⟨rfl, bl_trans h1 h2⟩

theorem bl_tri : ∀ (a b : Bs), bl a b = true ∨ a = b ∨ bl b a = true
  | [], [] => .inr (.inl rfl)
  | [], _ :: _ => .inl rfl
  | _ :: _, [] => .inr (.inr rfl)
  | a :: x, b :: y => by
    simp only [bl, Bool.or_eq_true, decide_eq_true_eq, Bool.and_eq_true, beq_iff_eq]
    rcases (show a < b ∨ a = b ∨ b < a by
      rcases Nat.lt_trichotomy a.toNat b.toNat with h | h | h
      · exact .inl h
      · exact .inr (.inl (UInt8.toNat_inj.1 h))
      · exact .inr (.inr h)) with h | rfl | h
    · exact .inl (.inl h)
    · rcases bl_tri x y with h | rfl | h
      · exact .inl (.inr ⟨rfl, h⟩)
      · exact .inr (.inl rfl)
      · exact .inr (.inr (.inr ⟨rfl, h⟩))
    · exact .inr (.inr (.inl h))

/-- One list of names against another: -1, 0, 1. -/
def cl : List Bs → List Bs → Int
  | [], [] => 0
  | [], _ :: _ => -1
  | _ :: _, [] => 1
  | a :: x, b :: y => if bl a b then -1 else if bl b a then 1 else cl x y

theorem cl_eq : ∀ {a b : List Bs}, cl a b = 0 ↔ a = b
  | [], [] => by simp [cl]
  | [], _ :: _ => by simp [cl]
  | _ :: _, [] => by simp [cl]
  | a :: x, b :: y => by
    unfold cl
    by_cases h1 : bl a b = true
    · rw [if_pos h1]
      refine ⟨fun h => by omega, fun h => ?_⟩
      injection h with h _
      subst h
      rw [bl_irr] at h1
      cases h1
    · rw [if_neg h1]
      by_cases h2 : bl b a = true
      · rw [if_pos h2]
        refine ⟨fun h => by omega, fun h => ?_⟩
        injection h with h _
        subst h
        rw [bl_irr] at h2
        cases h2
      · rw [if_neg h2, cl_eq]
        rcases bl_tri a b with h | rfl | h
        · exact absurd h h1
        · simp
        · exact absurd h h2

theorem cl_range : ∀ (a b : List Bs), cl a b = -1 ∨ cl a b = 0 ∨ cl a b = 1
  | [], [] => by simp [cl]
  | [], _ :: _ => by simp [cl]
  | _ :: _, [] => by simp [cl]
  | a :: x, b :: y => by
    unfold cl
    split
    · simp
    · split
      · simp
      · exact cl_range x y

theorem bl_asym {a b : Bs} (h : bl a b = true) : bl b a = false := by
  cases h2 : bl b a with
  | false => rfl
  | true =>
    have := bl_trans h h2
    rw [bl_irr] at this
    cases this

theorem cl_swap : ∀ (a b : List Bs), cl a b = - cl b a
  | [], [] => by simp [cl]
  | [], _ :: _ => by simp [cl]
  | _ :: _, [] => by simp [cl]
  | a :: x, b :: y => by
    rw [cl, cl]
    by_cases h1 : bl a b = true
    · rw [if_pos h1, if_neg (by rw [bl_asym h1]; simp), if_pos h1]
    · by_cases h2 : bl b a = true
      · rw [if_neg h1, if_pos h2, if_pos h2]; rfl
      · rw [if_neg h1, if_neg h2, if_neg h2, if_neg h1, cl_swap x y]

theorem cl_trans : ∀ {a b c : List Bs}, cl a b < 0 → cl b c < 0 → cl a c < 0
  | [], [], _, h, _ => by simp [cl] at h
  | [], _ :: _, [], _, h => by simp [cl] at h
  | [], _ :: _, _ :: _, _, _ => by simp [cl]
  | _ :: _, [], _, h, _ => by simp [cl] at h
  | _ :: _, _ :: _, [], _, h => by simp [cl] at h
  | a :: x, b :: y, c :: z, h1, h2 => by
    unfold cl at h1 h2 ⊢
    by_cases e1 : bl a b = true
    · by_cases e2 : bl b c = true
      · rw [if_pos (bl_trans e1 e2)]; omega
      · rw [if_neg e2] at h2
        by_cases e3 : bl c b = true
        · rw [if_pos e3] at h2; omega
        · rcases bl_tri b c with h | rfl | h
          · exact absurd h e2
          · rw [if_pos e1]; omega
          · exact absurd h e3
    · rw [if_neg e1] at h1
      by_cases e4 : bl b a = true
      · rw [if_pos e4] at h1; omega
      · rw [if_neg e4] at h1
        rcases bl_tri a b with h | rfl | h
        · exact absurd h e1
        · by_cases e2 : bl a c = true
          · rw [if_pos e2]; omega
          · rw [if_neg e2] at h2 ⊢
            by_cases e3 : bl c a = true
            · rw [if_pos e3] at h2; omega
            · rw [if_neg e3] at h2 ⊢
              exact cl_trans h1 h2
        · exact absurd h e4

/-- Two paths. -/
def pc (a b : Bs) : Int := cl (sp a) (sp b)
theorem pc_eq {a b : Bs} : pc a b = 0 ↔ a = b := by
  unfold pc
  rw [cl_eq]
  exact ⟨sp_inj, fun h => by rw [h]⟩
theorem pc_self (a : Bs) : pc a a = 0 := pc_eq.2 rfl
theorem pc_swap (a b : Bs) : pc a b = - pc b a := cl_swap _ _
theorem pc_trans {a b c : Bs} (h1 : pc a b < 0) (h2 : pc b c < 0) : pc a c < 0 := cl_trans h1 h2
theorem pc_range (a b : Bs) : pc a b = -1 ∨ pc a b = 0 ∨ pc a b = 1 := cl_range _ _
/-- A beginning of a list of names is ahead of it. -/
theorem cl_pre : ∀ (a b : List Bs), b ≠ [] → cl a (a ++ b) = -1
  | [], [], h => absurd rfl h
  | [], _ :: _, _ => by simp [cl]
  | a :: x, b, h => by rw [List.cons_append, cl, bl_irr]; simp [cl_pre x b h]

/-! ### what may be -/
def lets : Bs := [97, 98, 99, 100, 101, 102, 103, 104, 105, 106, 107, 108, 109, 110, 111, 112, 113, 114, 115, 116, 117, 118, 119, 120, 121, 122, 48, 49, 50, 51, 52, 53, 54, 55, 56, 57, 46, 45, 95]
/-- A name. -/
def gn (s : Bs) : Bool := !s.isEmpty && decide (s.length ≤ 16) && !(s == [46]) && !(s == [46, 46]) && s.all (lets.contains ·)
/-- A path. -/
def gp (p : Bs) : Bool := decide ((sp p).length ≤ 4) && (sp p).all gn
/-- All names but the last. -/
def up (p : Bs) : Bs := jo (sp p).dropLast

theorem gn_ne {s : Bs} (h : gn s = true) : s ≠ [] := by
  rintro rfl
  simp [gn] at h

theorem gp_names {p : Bs} (h : gp p = true) : ∀ n ∈ sp p, gn n = true := by
  unfold gp at h
  rw [Bool.and_eq_true] at h
  exact List.all_eq_true.1 h.2

theorem gp_nil : gp [] = false := by decide

theorem dw_nil {p : UInt8 → Bool} : ∀ {l : Bs}, l.dropWhile p = [] ↔ ∀ x ∈ l, p x = true
  | [] => by simp
  | a :: r => by
    rw [List.dropWhile_cons]
    by_cases h : p a = true
    · rw [if_pos h, dw_nil]; simp [h]
    · rw [if_neg h]; simp [h]

theorem tw_mem {p : UInt8 → Bool} {x : UInt8} : ∀ {l : Bs}, x ∈ l.takeWhile p → p x = true
  | [], h => by simp at h
  | a :: r, h => by
    rw [List.takeWhile_cons] at h
    by_cases ha : p a = true
    · rw [if_pos ha] at h
      rcases List.mem_cons.1 h with rfl | h
      · exact ha
      · exact tw_mem h
    · rw [if_neg ha] at h
      cases h
theorem trim_all (l cs : Bs) : Lib.trimS l cs = [] ↔ l.all (cs.contains ·) = true := by
  unfold Lib.trimS Lib.trimLeftS Lib.trimRightS
  rw [dw_nil]
  constructor
  · intro h
    rw [List.all_eq_true]
    intro x hx
    by_cases hc : cs.contains x = true
    · exact hc
    · have hm : x ∈ (l.reverse.dropWhile (cs.contains ·)).reverse := by
        rw [List.mem_reverse]
        rw [← List.mem_reverse, ← List.takeWhile_append_dropWhile (p := (cs.contains ·)) (l := l.reverse), List.mem_append] at hx
        rcases hx with hx | hx
        · exact absurd (tw_mem hx) hc
        · exact hx
      exact h x hm
  · intro h x hx
    rw [List.mem_reverse] at hx
    exact List.all_eq_true.1 h x (List.mem_reverse.1 ((List.dropWhile_sublist _).mem hx))

/-! ### a parting's cut: the library's words -/
theorem first_at : ∀ {l : Bs}, (47 : UInt8) ∈ l → ∃ a r, l = a ++ 47 :: r ∧ (47 : UInt8) ∉ a
  | [], h => by cases h
  | c :: r, h => by
    by_cases hc : c = 47
    · exact ⟨[], r, by rw [hc]; rfl, by simp⟩
    · have hr : (47 : UInt8) ∈ r := by
        rcases List.mem_cons.1 h with e | h
        · exact absurd e.symm hc
        · exact h
      obtain ⟨a, r', e, ha⟩ := first_at hr
      refine ⟨c :: a, r', by rw [e]; rfl, fun hm => ?_⟩
      rcases List.mem_cons.1 hm with e | hm
      · exact hc e.symm
      · exact ha hm

theorem pre_one (l : Bs) : List.isPrefixOf [47] l = (match l with | c :: _ => decide (47 = c) | [] => false) := by
  cases l with
  | nil => rfl
  | cons c r => simp [List.isPrefixOf, BEq.beq]

theorem index_miss {l : Bs} (h : (47 : UInt8) ∉ l) : Lib.index l [47] = -1 := by
  refine Lib.index_none fun j hj => ?_
  unfold Lib.occAt
  rw [pre_one]
  split
  · next c r e =>
    rw [decide_eq_false_iff_not]
    intro e2
    subst e2
    exact h (List.mem_of_mem_drop (by rw [e]; exact List.mem_cons_self))
  · rfl

theorem index_hit {a r : Bs} (h : (47 : UInt8) ∉ a) : Lib.index (a ++ 47 :: r) [47] = (a.length : Int) := by
  refine Lib.index_first (by simp) ?_ fun j hj => ?_
  · unfold Lib.occAt
    rw [pre_one, List.drop_left]
    simp
  · unfold Lib.occAt
    rw [pre_one, List.drop_append_of_le_length (by omega)]
    cases hd : a.drop j with
    | nil =>
      have := congrArg List.length hd
      rw [List.length_drop, List.length_nil] at this
      omega
    | cons c t =>
      simp only [List.cons_append]
      rw [decide_eq_false_iff_not]
      intro e2
      subst e2
      exact h (List.mem_of_mem_drop (by rw [hd]; exact List.mem_cons_self))

theorem split_sp : ∀ (n : Nat) (l : Bs), l.length ≤ n → Lib.split l [47] = sp l
  | n, l, hn => by
    unfold Lib.split
    by_cases hm : (47 : UInt8) ∈ l
    · obtain ⟨a, r, rfl, ha⟩ := first_at hm
      have hi := index_hit (r := r) ha
      rw [Lib.count_hit (by simp) hi, Nat.add_comm, Lib.splitK, if_neg (by rw [hi]; simp), hi]
      have hl : r.length < n := by simp at hn; omega
      have ed : (a ++ 47 :: r).drop (a.length + 1) = r := by simp
      cases n with
      | zero => omega
      | succ n =>
        have ih := split_sp n r (by omega)
        unfold Lib.split at ih
        simp only [Int.toNat_natCast, Nat.add_zero, List.length_singleton, List.take_left', ed]
        rw [ih, sp_app ha]
        simp [sp]
    · rw [Lib.count_miss (index_miss hm), Lib.splitK, sp_one hm]
end Go.Proofs.YtpfmenepgejgdaaDoor.Pl
