/- Comparings of texts, versions and modules: their turn, and that they go on. Plain Lean, no program. -/
import Derived.Test.YtcfmaeonginefaaGreatDoorCompare3
namespace Go.Proofs.YtcfmaeonginefaaGreatDoor.Cmp
open Go Go.Proofs.YtcfmaeonginefaaGreatDoor.Cut Go.Proofs.YtcfmaeonginefaaGreatDoor.Elems Go.Proofs.YtcfmaeonginefaaGreatDoor.Idents Go.Proofs.YtcfmaeonginefaaGreatDoor.Sign Go.Proofs.YtcfmaeonginefaaGreatDoor.Order Go.Proofs.YtcfmaeonginefaaGreatDoor.OrderPre Go.Proofs.YtcfmaeonginefaaGreatDoor.Parse Go.Proofs.YtcfmaeonginefaaGreatDoor.Order3 Go.Proofs.YtcfmaeonginefaaGreatDoor.Parse3 Go.Proofs.YtcfmaeonginefaaGreatDoor.Compare3
set_option linter.unusedSimpArgs false
set_option linter.unusedVariables false

/-- A comparing that answers -1, 0 or 1. -/
structure Cmp {α : Type} (c : α → α → Int) : Prop where
  bd : ∀ a b, -1 ≤ c a b ∧ c a b ≤ 1
  anti : ∀ a b, c b a = - c a b
  tr : ∀ a b d, c a b ≤ 0 → c b d ≤ 0 → c a d ≤ 0

theorem Cmp.refl {α : Type} {c : α → α → Int} (h : Cmp c) (a : α) : c a a = 0 := by have := h.anti a a; omega
theorem Cmp.lt1 {α : Type} {c : α → α → Int} (h : Cmp c) {a b d : α} (h1 : c a b < 0) (h2 : c b d ≤ 0) : c a d < 0 := by
  have h3 := h.tr a b d (by omega) h2
  by_cases e : c a d = 0
  · have h4 := h.anti a d
    have h5 := h.tr b d a h2 (by omega)
    have h6 := h.anti a b
    omega
  · omega
theorem Cmp.lt2 {α : Type} {c : α → α → Int} (h : Cmp c) {a b d : α} (h1 : c a b ≤ 0) (h2 : c b d < 0) : c a d < 0 := by
  have h3 := h.tr a b d h1 (by omega)
  by_cases e : c a d = 0
  · have h4 := h.anti a d
    have h5 := h.tr d a b (by omega) h1
    have h6 := h.anti b d
    omega
  · omega
theorem Cmp.zero {α : Type} {c : α → α → Int} (h : Cmp c) {a b d : α} (h1 : c a b = 0) (h2 : c b d = 0) : c a d = 0 := by
  have h3 := h.tr a b d (by omega) (by omega)
  have h4 := h.anti a b
  have h5 := h.anti b d
  have h6 := h.tr d b a (by omega) (by omega)
  have h7 := h.anti a d
  omega
theorem Cmp.pull {α β : Type} {c : β → β → Int} (h : Cmp c) (f : α → β) : Cmp (fun a b => c (f a) (f b)) :=
  ⟨fun a b => h.bd _ _, fun a b => h.anti _ _, fun a b d => h.tr _ _ _⟩
theorem Cmp.lex {α : Type} {c1 c2 : α → α → Int} (h1 : Cmp c1) (h2 : Cmp c2) : Cmp (fun a b => orB (c1 a b) (c2 a b)) where
  bd a b := by
    have := h1.bd a b
    have := h2.bd a b
    unfold orB
    split <;> omega
  anti a b := by
    have e1 := h1.anti a b
    have e2 := h2.anti a b
    unfold orB
    by_cases e : c1 a b = 0
    · rw [if_pos (by omega), if_pos e]; exact e2
    · rw [if_neg (by omega), if_neg e]; exact e1
  tr a b d k1 k2 := by
    show orB _ _ ≤ 0
    have k1' : orB (c1 a b) (c2 a b) ≤ 0 := k1
    have k2' : orB (c1 b d) (c2 b d) ≤ 0 := k2
    unfold orB at *
    by_cases e1 : c1 a b = 0
    · rw [if_pos e1] at k1'
      by_cases e2 : c1 b d = 0
      · rw [if_pos e2] at k2'
        rw [if_pos (h1.zero e1 e2)]
        exact h2.tr a b d k1' k2'
      · rw [if_neg e2] at k2'
        have := h1.lt2 (a := a) (b := b) (d := d) (by omega) (by omega)
        rw [if_neg (by omega)]
        omega
    · rw [if_neg e1] at k1'
      have h4 : c1 b d ≤ 0 := by
        by_cases e2 : c1 b d = 0
        · omega
        · rw [if_neg e2] at k2'; exact k2'
      have := h1.lt1 (a := a) (b := b) (d := d) (by omega) h4
      rw [if_neg (by omega)]
      omega

theorem cmp_int : Cmp Lib.compareInt where
  bd a b := by unfold Lib.compareInt; split <;> (try split) <;> omega
  anti a b := by unfold Lib.compareInt; repeat' split
                 all_goals omega
  tr a b d h k := by
    unfold Lib.compareInt at *
    repeat' split at h
    all_goals (repeat' split at k)
    all_goals (repeat' split)
    all_goals omega

theorem bl_cons (a b : UInt8) (x y : List UInt8) : Op.bytesLess (a :: x) (b :: y) = (decide (a < b) || (a == b && Op.bytesLess x y)) := rfl
theorem bl_iff (a b : UInt8) (x y : List UInt8) : Op.bytesLess (a :: x) (b :: y) = true ↔ a.toNat < b.toNat ∨ (a.toNat = b.toNat ∧ Op.bytesLess x y = true) := by
  rw [bl_cons, Bool.or_eq_true, Bool.and_eq_true, decide_eq_true_iff, beq_iff_eq, UInt8.lt_iff_toNat_lt]
  constructor
  · rintro (h | ⟨rfl, h⟩)
    · exact .inl h
    · exact .inr ⟨rfl, h⟩
  · rintro (h | ⟨h, k⟩)
    · exact .inl h
    · exact .inr ⟨UInt8.toNat_inj.1 h, k⟩
theorem bl_trans : ∀ a b c : List UInt8, Op.bytesLess a b = true → Op.bytesLess b c = true → Op.bytesLess a c = true
  | [], _, [], _, h => by rename_i b _; cases b <;> cases h
  | [], _, _ :: _, _, _ => rfl
  | _ :: _, [], _, h, _ => by cases h
  | _ :: _, _ :: _, [], _, h => by cases h
  | a :: x, b :: y, c :: z, h, k => by
    rw [bl_iff] at h k ⊢
    rcases h with h | ⟨h, h2⟩
    · rcases k with k | ⟨k, _⟩
      · exact .inl (by omega)
      · exact .inl (by omega)
    · rcases k with k | ⟨k, k2⟩
      · exact .inl (by omega)
      · exact .inr ⟨by omega, bl_trans x y z h2 k2⟩
theorem cmpB_zero {a b : ByteArray} (h : cmpB a b = 0) : a = b := by
  cases he : a.toList == b.toList with
  | true => exact ba_eq he
  | false => rw [cmpB_ne he] at h; split at h <;> cases h
theorem cmpB_le {a b : ByteArray} : cmpB a b ≤ 0 ↔ Op.bytesLess b.toList a.toList = false := by
  unfold cmpB
  by_cases h1 : Op.bytesLess a.toList b.toList = true
  · rw [if_pos h1]
    refine ⟨fun _ => ?_, fun _ => by omega⟩
    cases h2 : Op.bytesLess b.toList a.toList with
    | false => rfl
    | true => have := bl_trans _ _ _ h1 h2; rw [bl_irr] at this; cases this
  · rw [if_neg h1]
    by_cases h3 : (a.toList == b.toList) = true
    · rw [if_pos h3, ba_eq h3]
      exact ⟨fun _ => bl_irr _, fun _ => Int.le_refl 0⟩
    · rw [if_neg h3]
      refine ⟨fun h => by omega, fun h => ?_⟩
      exact absurd (by simpa using bl_tri _ _ (by simpa using h1) h) (by simpa using h3)
theorem cmp_text : Cmp cmpB where
  bd a b := by unfold cmpB; repeat' split
               all_goals omega
  anti a b := by
    by_cases e : a = b
    · subst e; rw [cmpB_self]; rfl
    · have n1 : (a.toList == b.toList) = false := by
        cases h : a.toList == b.toList with
        | false => rfl
        | true => exact absurd (ba_eq h) e
      have n2 : (b.toList == a.toList) = false := by
        cases h : b.toList == a.toList with
        | false => rfl
        | true => exact absurd (ba_eq h).symm e
      rw [cmpB_ne n1, cmpB_ne n2]
      cases h1 : Op.bytesLess a.toList b.toList with
      | true =>
        cases h2 : Op.bytesLess b.toList a.toList with
        | true => have := bl_trans _ _ _ h1 h2; rw [bl_irr] at this; cases this
        | false => rfl
      | false =>
        cases h2 : Op.bytesLess b.toList a.toList with
        | true => rfl
        | false => exact absurd (by simpa using bl_tri _ _ h1 h2) (by simpa using n1)
  tr a b d h k := by
    rw [cmpB_le] at *
    cases h3 : Op.bytesLess d.toList a.toList with
    | false => rfl
    | true =>
      exfalso
      cases h4 : Op.bytesLess a.toList b.toList with
      | true => rw [bl_trans _ _ _ h3 h4] at k; cases k
      | false => rw [bl_tri _ _ h4 h] at h3; rw [h3] at k; cases k

/-- Lists, element by element. -/
def lexL {α : Type} (c : α → α → Int) : List α → List α → Int
  | [], [] => 0
  | [], _ :: _ => -1
  | _ :: _, [] => 1
  | x :: xs, y :: ys => orB (c x y) (lexL c xs ys)
theorem lexL_cons {α : Type} (c : α → α → Int) (x y : α) (xs ys : List α) : lexL c (x :: xs) (y :: ys) = orB (c x y) (lexL c xs ys) := rfl
theorem lex_anti {α : Type} {c : α → α → Int} (h : Cmp c) : ∀ a b, lexL c b a = - lexL c a b
  | [], [] => rfl
  | [], _ :: _ => rfl
  | _ :: _, [] => rfl
  | x :: xs, y :: ys => by
    rw [lexL_cons, lexL_cons]
    have e1 := h.anti x y
    have e2 := lex_anti h xs ys
    unfold orB
    by_cases e : c x y = 0
    · rw [if_pos (by omega), if_pos e]; exact e2
    · rw [if_neg (by omega), if_neg e]; exact e1
theorem lex_bd {α : Type} {c : α → α → Int} (h : Cmp c) : ∀ a b, -1 ≤ lexL c a b ∧ lexL c a b ≤ 1
  | [], [] => by show (-1 : Int) ≤ 0 ∧ (0 : Int) ≤ 1; decide
  | [], _ :: _ => by show (-1 : Int) ≤ -1 ∧ (-1 : Int) ≤ 1; decide
  | _ :: _, [] => by show (-1 : Int) ≤ 1 ∧ (1 : Int) ≤ 1; decide
  | x :: xs, y :: ys => by
    rw [lexL_cons]
    have := h.bd x y
    have := lex_bd h xs ys
    unfold orB
    split <;> omega
theorem lex_tr {α : Type} {c : α → α → Int} (h : Cmp c) : ∀ a b d, lexL c a b ≤ 0 → lexL c b d ≤ 0 → lexL c a d ≤ 0
  | [], _, [], _, _ => Int.le_refl 0
  | [], _, _ :: _, _, _ => by show (-1 : Int) ≤ 0; decide
  | _ :: _, [], _, k, _ => absurd k (by show ¬ (1 : Int) ≤ 0; decide)
  | _ :: _, _ :: _, [], _, k => absurd k (by show ¬ (1 : Int) ≤ 0; decide)
  | x :: xs, y :: ys, z :: zs, k1, k2 => by
    rw [lexL_cons] at *
    have ih := lex_tr h xs ys zs
    unfold orB at *
    by_cases e1 : c x y = 0
    · rw [if_pos e1] at k1
      by_cases e2 : c y z = 0
      · rw [if_pos e2] at k2
        rw [if_pos (h.zero e1 e2)]
        exact ih k1 k2
      · rw [if_neg e2] at k2
        have := h.lt2 (a := x) (b := y) (d := z) (by omega) (by omega)
        rw [if_neg (by omega)]
        omega
    · rw [if_neg e1] at k1
      have h4 : c y z ≤ 0 := by
        by_cases e2 : c y z = 0
        · omega
        · rw [if_neg e2] at k2; exact k2
      have := h.lt1 (a := x) (b := y) (d := z) (by omega) h4
      rw [if_neg (by omega)]
      omega
theorem cmp_list {α : Type} {c : α → α → Int} (h : Cmp c) : Cmp (lexL c) := ⟨lex_bd h, lex_anti h, lex_tr h⟩
theorem lexL_zero {α : Type} {c : α → α → Int} (h : ∀ a b, c a b = 0 → a = b) : ∀ {a b : List α}, lexL c a b = 0 → a = b
  | [], [], _ => rfl
  | [], _ :: _, k => by cases k
  | _ :: _, [], k => by cases k
  | x :: xs, y :: ys, k => by
    rw [lexL_cons] at k
    unfold orB at k
    by_cases e : c x y = 0
    · rw [if_pos e] at k
      rw [h _ _ e, lexL_zero h k]
    · rw [if_neg e] at k
      exact absurd k e

/-! ### Identifiers, versions, modules -/
def rankD (a : ByteArray) : Int := if everyB digitB a = true then 0 else 1
def lenD (a : ByteArray) : Int := if everyB digitB a = true then a.size else 0
theorem orderB_lex (a b : ByteArray) : orderB a b = orB (Lib.compareInt (rankD a) (rankD b)) (orB (Lib.compareInt (lenD a) (lenD b)) (cmpB a b)) := by
  unfold orderB rankD lenD
  by_cases h1 : everyB digitB a = true
  · by_cases h2 : everyB digitB b = true
    · simp only [if_pos h1, if_pos h2, orB_self]
    · simp only [if_pos h1, if_neg h2]; rfl
  · by_cases h2 : everyB digitB b = true
    · simp only [if_neg h1, if_pos h2]; rfl
    · simp only [if_neg h1, if_neg h2, orB_self]
theorem cmp_order : Cmp orderB := by
  have h := (cmp_int.pull rankD).lex ((cmp_int.pull lenD).lex cmp_text)
  have e : orderB = fun a b => orB (Lib.compareInt (rankD a) (rankD b)) (orB (Lib.compareInt (lenD a) (lenD b)) (cmpB a b)) := funext fun a => funext fun b => orderB_lex a b
  rw [e]; exact h
theorem ordL_lex : ∀ xs ys : List ByteArray, xs ≠ ys → ordL xs ys = lexL orderB xs ys
  | [], [], h => absurd rfl h
  | [], _ :: _, _ => rfl
  | _ :: _, [], _ => rfl
  | x :: xs, y :: ys, h => by
    rw [lexL_cons]
    show (if orderB x y = 0 then ordL xs ys else orderB x y) = _
    unfold orB
    by_cases e : orderB x y = 0
    · rw [if_pos e, if_pos e]
      refine ordL_lex xs ys fun k => h ?_
      rw [orderB_zero e, k]
    · rw [if_neg e, if_neg e]
def rankE (a : ByteArray) : Int := if a.toList.isEmpty = true then 1 else 0
theorem orderPreB_lex (a b : ByteArray) : orderPreB a b = orB (Lib.compareInt (rankE a) (rankE b)) (lexL orderB (splB 46 a) (splB 46 b)) := by
  by_cases h : (a.toList == b.toList) = true
  · have e : a = b := ba_eq h
    subst e
    unfold orderPreB
    rw [if_pos h, orB_self, (cmp_list cmp_order).refl]
  · have hne : splB 46 a ≠ splB 46 b := fun k => h (by rw [splB_inj k]; simp)
    unfold orderPreB rankE
    rw [if_neg h]
    by_cases h1 : a.toList.isEmpty = true
    · have h2 : ¬ b.toList.isEmpty = true := by
        intro h2
        rw [List.isEmpty_iff] at h1 h2
        rw [h1, h2] at h
        exact h rfl
      simp only [if_pos h1, if_neg h2]; rfl
    · by_cases h2 : b.toList.isEmpty = true
      · simp only [if_neg h1, if_pos h2]; rfl
      · simp only [if_neg h1, if_neg h2, orB_self]
        exact ordL_lex _ _ hne
theorem cmp_pre : Cmp orderPreB := by
  have h := (cmp_int.pull rankE).lex ((cmp_list cmp_order).pull (splB 46))
  have e : orderPreB = fun a b => orB (Lib.compareInt (rankE a) (rankE b)) (lexL orderB (splB 46 a) (splB 46 b)) := funext fun a => funext fun b => orderPreB_lex a b
  rw [e]; exact h
def rankV (a : ByteArray) : Int := if (parseB a).2.2.2.2.2 = 0 then 1 else 0
theorem parseB_bad {a : ByteArray} (h : ¬ (parseB a).2.2.2.2.2 = 0) : parseB a = (0, 0, 0, ⟨#[]⟩, ⟨#[]⟩, 30) := by
  unfold parseB at *
  split
  · rename_i k; rw [if_pos k] at h; exact absurd rfl h
  · rfl
theorem compareB_lex (a b : ByteArray) : compareB a b = orB (Lib.compareInt (rankV a) (rankV b)) (compareV (parseB a).1 (parseB a).2.1 (parseB a).2.2.1 (parseB a).2.2.2.1 (parseB b).1 (parseB b).2.1 (parseB b).2.2.1 (parseB b).2.2.2.1) := by
  unfold compareB rankV
  by_cases h1 : (parseB a).2.2.2.2.2 = 0
  · by_cases h2 : (parseB b).2.2.2.2.2 = 0
    · simp only [if_pos h1, if_pos h2, orB_self]
    · simp only [if_pos h1, if_neg h2]; rfl
  · by_cases h2 : (parseB b).2.2.2.2.2 = 0
    · simp only [if_neg h1, if_pos h2]; rfl
    · simp only [if_neg h1, if_neg h2, orB_self]
      rw [parseB_bad h1, parseB_bad h2]
      show (0 : Int) = compareV 0 0 0 ⟨#[]⟩ 0 0 0 ⟨#[]⟩
      unfold compareV
      rw [orB_self, orB_self, orB_self, cmp_pre.refl]
theorem cmp_version : Cmp compareB := by
  have h := (cmp_int.pull rankV).lex ((cmp_int.pull fun a => (parseB a).1).lex ((cmp_int.pull fun a => (parseB a).2.1).lex ((cmp_int.pull fun a => (parseB a).2.2.1).lex (cmp_pre.pull fun a => (parseB a).2.2.2.1))))
  have e : compareB = fun a b => orB (Lib.compareInt (rankV a) (rankV b)) (orB (Lib.compareInt (parseB a).1 (parseB b).1) (orB (Lib.compareInt (parseB a).2.1 (parseB b).2.1) (orB (Lib.compareInt (parseB a).2.2.1 (parseB b).2.2.1) (orderPreB (parseB a).2.2.2.1 (parseB b).2.2.2.1)))) := funext fun a => funext fun b => compareB_lex a b
  rw [e]; exact h
/-- A module: its path and its version. -/
def pathB (a b : ByteArray) : Int := lexL cmpB (elemsB a) (elemsB b)
def modB (a b : ByteArray × ByteArray) : Int := orB (pathB a.1 b.1) (orB (compareB a.2 b.2) (cmpB a.2 b.2))
theorem cmp_path : Cmp pathB := (cmp_list cmp_text).pull elemsB
theorem cmp_mod : Cmp modB := by
  have h := (cmp_path.pull (fun a : ByteArray × ByteArray => a.1)).lex ((cmp_version.pull (fun a : ByteArray × ByteArray => a.2)).lex (cmp_text.pull (fun a : ByteArray × ByteArray => a.2)))
  have e : modB = fun a b => orB (pathB a.1 b.1) (orB (compareB a.2 b.2) (cmpB a.2 b.2)) := funext fun a => funext fun b => by unfold modB; rfl
  rw [e]; exact h
theorem elemsB_inj {a b : ByteArray} (h : elemsB a = elemsB b) : a = b := by
  have key : ∀ s : ByteArray, elemsB s = if s.toList.isEmpty = true then [] else splB 47 s := by
    intro s
    unfold elemsB rest
    cases s.toList.isEmpty <;> rfl
  have ne : ∀ s : ByteArray, splB 47 s ≠ [] := by
    intro s k
    unfold splB at k
    exact spl_ne 47 _ (List.map_eq_nil_iff.1 k)
  rw [key, key] at h
  by_cases h1 : a.toList.isEmpty = true
  · by_cases h2 : b.toList.isEmpty = true
    · refine ba_eq ?_
      rw [List.isEmpty_iff] at h1 h2
      rw [h1, h2]; rfl
    · rw [if_pos h1, if_neg h2] at h
      exact absurd h.symm (ne b)
  · by_cases h2 : b.toList.isEmpty = true
    · rw [if_neg h1, if_pos h2] at h
      exact absurd h (ne a)
    · rw [if_neg h1, if_neg h2] at h
      exact splB_inj h
theorem pathB_zero {a b : ByteArray} (h : pathB a b = 0) : a = b := elemsB_inj (lexL_zero (fun _ _ => cmpB_zero) h)
theorem modB_zero {a b : ByteArray × ByteArray} (h : modB a b = 0) : a = b := by
  unfold modB orB at h
  by_cases e1 : pathB a.1 b.1 = 0
  · rw [if_pos e1] at h
    by_cases e2 : compareB a.2 b.2 = 0
    · rw [if_pos e2] at h
      exact Prod.ext (pathB_zero e1) (cmpB_zero h)
    · rw [if_neg e2] at h; exact absurd h e2
  · rw [if_neg e1] at h; exact absurd h e1
end Go.Proofs.YtcfmaeonginefaaGreatDoor.Cmp
