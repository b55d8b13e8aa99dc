/- The versions of a path: plain laws on lists. -/
import Derived.Test.YtcfmaeonginefaaGreatDoorCmp
namespace Go.Proofs.YtcfmaeonginefaaGreatDoor.Vers
open Go Go.Proofs.YtcfmaeonginefaaGreatDoor.Order Go.Proofs.YtcfmaeonginefaaGreatDoor.Order3 Go.Proofs.YtcfmaeonginefaaGreatDoor.Cmp
set_option linter.unusedSimpArgs false
set_option linter.unusedVariables false

/-- An element is put behind the last one that is not greater. -/
def insB {α : Type} (c : α → α → Int) (x : α) : List α → List α
  | [] => [x]
  | y :: r => if c x y < 0 then x :: y :: r else y :: insB c x r
def sortF {α : Type} (c : α → α → Int) (acc l : List α) : List α := l.foldl (fun a x => insB c x a) acc
def sortB {α : Type} (c : α → α → Int) (l : List α) : List α := sortF c [] l
theorem sortB_snoc {α : Type} (c : α → α → Int) (l : List α) (x : α) : sortB c (l ++ [x]) = insB c x (sortB c l) := by
  unfold sortB sortF
  rw [List.foldl_append]; rfl
theorem insB_perm {α : Type} (c : α → α → Int) (x : α) : ∀ l, (insB c x l).Perm (x :: l)
  | [] => List.Perm.refl _
  | y :: r => by
    unfold insB
    split
    · exact List.Perm.refl _
    · exact ((insB_perm c x r).cons y).trans (List.Perm.swap x y r)
theorem insB_len {α : Type} (c : α → α → Int) (x : α) (l : List α) : (insB c x l).length = l.length + 1 := (insB_perm c x l).length_eq
theorem sortF_perm {α : Type} (c : α → α → Int) : ∀ l acc, (sortF c acc l).Perm (acc ++ l)
  | [], acc => by unfold sortF; simp
  | x :: r, acc => by
    have h := sortF_perm c r (insB c x acc)
    have e : sortF c acc (x :: r) = sortF c (insB c x acc) r := rfl
    rw [e]
    refine h.trans (((insB_perm c x acc).append_right r).trans ?_)
    exact (List.perm_middle (l₁ := acc) (l₂ := r) (a := x)).symm
theorem sortB_perm {α : Type} (c : α → α → Int) (l : List α) : (sortB c l).Perm l := by
  have := sortF_perm c l []
  simpa [sortB] using this
theorem sortB_len {α : Type} (c : α → α → Int) (l : List α) : (sortB c l).length = l.length := (sortB_perm c l).length_eq
theorem insB_sorted {α : Type} {c : α → α → Int} (hc : Cmp c) (x : α) : ∀ l, l.Pairwise (fun a b => c a b ≤ 0) → (insB c x l).Pairwise fun a b => c a b ≤ 0
  | [], _ => by unfold insB; simp
  | y :: r, h => by
    have hy := List.pairwise_cons.1 h
    unfold insB
    split
    · rename_i hlt
      refine List.pairwise_cons.2 ⟨fun z hz => ?_, h⟩
      rcases List.mem_cons.1 hz with rfl | hz
      · omega
      · have := hc.lt1 hlt (hy.1 z hz); omega
    · rename_i hge
      refine List.pairwise_cons.2 ⟨fun z hz => ?_, insB_sorted hc x r hy.2⟩
      rcases List.mem_cons.1 ((insB_perm c x r).mem_iff.1 hz) with rfl | hz
      · have := hc.anti z y; omega
      · exact hy.1 z hz
theorem sortF_sorted {α : Type} {c : α → α → Int} (hc : Cmp c) : ∀ l acc, acc.Pairwise (fun a b => c a b ≤ 0) → (sortF c acc l).Pairwise fun a b => c a b ≤ 0
  | [], acc, h => h
  | x :: r, acc, h => sortF_sorted hc r (insB c x acc) (insB_sorted hc x acc h)
theorem sortB_sorted {α : Type} {c : α → α → Int} (hc : Cmp c) (l : List α) : (sortB c l).Pairwise fun a b => c a b ≤ 0 := sortF_sorted hc l [] List.Pairwise.nil

/-- An element is added, if it is not the last one. -/
def addL {α : Type} [DecidableEq α] (out : List α) (v : α) : List α := if out.getLast? = some v then out else out ++ [v]
def ddF {α : Type} [DecidableEq α] (acc l : List α) : List α := l.foldl addL acc
def dd {α : Type} [DecidableEq α] (l : List α) : List α := ddF [] l
theorem dd_snoc {α : Type} [DecidableEq α] (l : List α) (x : α) : dd (l ++ [x]) = addL (dd l) x := by
  unfold dd ddF; rw [List.foldl_append]; rfl
theorem addL_len {α : Type} [DecidableEq α] (out : List α) (v : α) : (addL out v).length ≤ out.length + 1 := by
  unfold addL; split <;> simp
theorem ddF_len {α : Type} [DecidableEq α] : ∀ (l acc : List α), (ddF acc l).length ≤ acc.length + l.length
  | [], acc => by simp [ddF]
  | x :: r, acc => by
    have h := ddF_len r (addL acc x)
    have := addL_len acc x
    show (ddF (addL acc x) r).length ≤ _
    simp only [List.length_cons]
    omega
theorem dd_len {α : Type} [DecidableEq α] (l : List α) : (dd l).length ≤ l.length := by
  have := ddF_len l []
  simpa [dd] using this
theorem addL_mem {α : Type} [DecidableEq α] (out : List α) (v x : α) : x ∈ addL out v ↔ x ∈ out ∨ x = v := by
  unfold addL
  split
  · rename_i h
    exact ⟨.inl, fun k => k.elim id fun e => by rw [e]; exact List.mem_of_getLast? h⟩
  · simp
theorem ddF_mem {α : Type} [DecidableEq α] (x : α) : ∀ (l acc : List α), x ∈ ddF acc l ↔ x ∈ acc ∨ x ∈ l
  | [], acc => by simp [ddF]
  | y :: r, acc => by
    have h := ddF_mem x r (addL acc y)
    show x ∈ ddF (addL acc y) r ↔ _
    rw [h, addL_mem, List.mem_cons, or_assoc]
theorem dd_mem {α : Type} [DecidableEq α] (x : α) (l : List α) : x ∈ dd l ↔ x ∈ l := by
  have := ddF_mem x l []
  simpa [dd] using this
theorem ddF_rise {α : Type} [DecidableEq α] {c : α → α → Int} (hc : Cmp c) (hz : ∀ a b, c a b = 0 → a = b) : ∀ l acc : List α, acc.Pairwise (fun a b => c a b < 0) → l.Pairwise (fun a b => c a b ≤ 0) → (∀ a ∈ acc, ∀ x ∈ l, c a x ≤ 0) → (ddF acc l).Pairwise fun a b => c a b < 0
  | [], acc, h, _, _ => h
  | x :: r, acc, h, hl, hx => by
    have hl' := List.pairwise_cons.1 hl
    show (ddF (addL acc x) r).Pairwise _
    refine ddF_rise hc hz r (addL acc x) ?_ hl'.2 (fun a ha y hy => ?_)
    · unfold addL
      split
      · exact h
      · rename_i hn
        refine List.pairwise_append.2 ⟨h, by simp, fun a ha b hb => ?_⟩
        obtain rfl : b = x := by simpa using hb
        have hax := hx a ha b (by simp)
        rcases Int.lt_or_eq_of_le hax with k | k
        · exact k
        · exfalso
          have e := hz a b k
          subst e
          cases hg : acc.getLast? with
          | none => rw [List.getLast?_eq_none_iff.1 hg] at ha; cases ha
          | some z =>
            obtain ⟨ys, hys⟩ := List.getLast?_eq_some_iff.1 hg
            rw [hys] at h ha
            have hp := List.pairwise_append.1 h
            rcases List.mem_append.1 ha with k1 | k1
            · have h1 := hp.2.2 a k1 z (by simp)
              have h2 := hx z (by rw [hys]; simp) a (by simp)
              have := hc.anti a z
              omega
            · obtain rfl : a = z := by simpa using k1
              exact hn hg
    · rcases (addL_mem acc x a).1 ha with k | k
      · exact hx a k y (List.mem_cons_of_mem _ hy)
      · rw [k]; exact hl'.1 y hy
theorem dd_rise {α : Type} [DecidableEq α] {c : α → α → Int} (hc : Cmp c) (hz : ∀ a b, c a b = 0 → a = b) {l : List α} (h : l.Pairwise fun a b => c a b ≤ 0) : (dd l).Pairwise fun a b => c a b < 0 :=
  ddF_rise hc hz l [] List.Pairwise.nil h (fun a ha => by cases ha)
theorem getLast?_map' {α β : Type} (f : α → β) (l : List α) : (l.map f).getLast? = l.getLast?.map f := by simp
theorem ddF_map {p : ByteArray} : ∀ (l acc : List (ByteArray × ByteArray)), (∀ m ∈ acc, m.1 = p) → (∀ m ∈ l, m.1 = p) → ddF (acc.map (·.2)) (l.map (·.2)) = (ddF acc l).map (·.2)
  | [], acc, _, _ => rfl
  | x :: r, acc, ha, hl => by
    have hx := hl x (by simp)
    have hadd : addL (acc.map (·.2)) x.2 = (addL acc x).map (·.2) := by
      unfold addL
      have e : ((acc.map (·.2)).getLast? = some x.2) ↔ (acc.getLast? = some x) := by
        rw [getLast?_map']
        cases hg : acc.getLast? with
        | none => simp
        | some z =>
          have hz := ha z (List.mem_of_getLast? hg)
          simp only [Option.map_some, Option.some.injEq]
          constructor
          · intro h
            exact Prod.ext (hz.trans hx.symm) h
          · intro h; rw [h]
      by_cases k : acc.getLast? = some x
      · rw [if_pos k, if_pos (e.2 k)]
      · rw [if_neg k, if_neg (fun h => k (e.1 h))]; simp
    show ddF (addL (acc.map (·.2)) x.2) (r.map (·.2)) = (ddF (addL acc x) r).map (·.2)
    rw [hadd]
    refine ddF_map r _ (fun m hm => ?_) (fun m hm => hl m (List.mem_cons_of_mem _ hm))
    rcases (addL_mem acc x m).1 hm with k | k
    · exact ha m k
    · rw [k]; exact hx
theorem dd_map {p : ByteArray} (l : List (ByteArray × ByteArray)) (h : ∀ m ∈ l, m.1 = p) : dd (l.map (·.2)) = (dd l).map (·.2) := ddF_map l [] (fun m hm => by cases hm) h

/-- Is a module one of a path? -/
def ofB (p : ByteArray) (m : ByteArray × ByteArray) : Bool := m.1.toList == p.toList
theorem ofB_iff {p : ByteArray} {m : ByteArray × ByteArray} : ofB p m = true ↔ m.1 = p := by
  unfold ofB
  exact ⟨fun h => ba_eq h, fun h => by rw [h]; simp⟩
/-- The versions of a path. -/
def verL (p : ByteArray) (l : List (ByteArray × ByteArray)) : List ByteArray := dd (((sortB modB l).filter (ofB p)).map (·.2))
def leB (x y : ByteArray × ByteArray) : Bool := !decide (modB y x < 0)
theorem leB_iff {x y : ByteArray × ByteArray} : leB x y = true ↔ modB x y ≤ 0 := by
  unfold leB
  have := cmp_mod.anti x y
  simp
  omega
theorem mods_anti (a b : ByteArray × ByteArray) (h1 : modB a b ≤ 0) (h2 : modB b a ≤ 0) : a = b := by
  have := cmp_mod.anti a b
  exact modB_zero (by omega)
theorem sort_same (p : ByteArray) (l : List (ByteArray × ByteArray)) : (l.filter (ofB p)).mergeSort leB = (sortB modB l).filter (ofB p) := by
  refine List.Perm.eq_of_pairwise (le := fun a b => modB a b ≤ 0) (fun a b _ _ h1 h2 => mods_anti a b h1 h2) ?_ ((sortB_sorted cmp_mod l).filter _) ?_
  · have := List.pairwise_mergeSort (le := leB) (fun a b d h1 h2 => leB_iff.2 (cmp_mod.tr a b d (leB_iff.1 h1) (leB_iff.1 h2))) (fun a b => by
      rw [Bool.or_eq_true, leB_iff, leB_iff]
      have := cmp_mod.anti a b
      omega) (l.filter (ofB p))
    exact this.imp fun h => leB_iff.1 h
  · exact (List.mergeSort_perm _ _).trans ((sortB_perm modB l).symm.filter _)
theorem ver_same (p : ByteArray) (l : List (ByteArray × ByteArray)) : (dd ((l.filter (ofB p)).mergeSort leB)).map (·.2) = verL p l := by
  unfold verL
  rw [sort_same, dd_map (p := p)]
  intro m hm
  exact ofB_iff.1 (List.mem_filter.1 hm).2
/-- The versions of a path rise. -/
theorem ver_rise (p : ByteArray) (l : List (ByteArray × ByteArray)) : (verL p l).Pairwise fun u v => modB (p, u) (p, v) < 0 := by
  rw [← ver_same, List.pairwise_map, sort_same]
  have h := dd_rise cmp_mod (fun a b h => modB_zero h) ((sortB_sorted cmp_mod l).filter (ofB p))
  refine List.Pairwise.imp_of_mem (fun {a b} ha hb hab => ?_) h
  have e1 : a.1 = p := ofB_iff.1 (List.mem_filter.1 ((dd_mem a _).1 ha)).2
  have e2 : b.1 = p := ofB_iff.1 (List.mem_filter.1 ((dd_mem b _).1 hb)).2
  have k1 : (p, a.2) = a := by rw [← e1]
  have k2 : (p, b.2) = b := by rw [← e2]
  rw [k1, k2]
  exact hab
theorem ver_mem (p v : ByteArray) (l : List (ByteArray × ByteArray)) : v ∈ verL p l ↔ (p, v) ∈ l := by
  unfold verL
  rw [dd_mem, List.mem_map]
  constructor
  · rintro ⟨m, hm, rfl⟩
    obtain ⟨h1, h2⟩ := List.mem_filter.1 hm
    have := (sortB_perm modB l).mem_iff.1 h1
    rw [← ofB_iff.1 h2]
    exact this
  · intro h
    exact ⟨(p, v), List.mem_filter.2 ⟨(sortB_perm modB l).mem_iff.2 h, ofB_iff.2 rfl⟩, rfl⟩
theorem ver_len (p : ByteArray) (l : List (ByteArray × ByteArray)) : (verL p l).length ≤ l.length := by
  unfold verL
  refine Nat.le_trans (dd_len _) ?_
  rw [List.length_map]
  exact Nat.le_trans (List.length_filter_le _ _) (Nat.le_of_eq (sortB_len modB l))
end Go.Proofs.YtcfmaeonginefaaGreatDoor.Vers
