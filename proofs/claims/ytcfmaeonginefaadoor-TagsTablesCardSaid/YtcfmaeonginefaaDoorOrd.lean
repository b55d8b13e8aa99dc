/- Texts in order: what graftbedref14.put builds and what the sort and Compact build is the same list. -/
import Derived.Test.YtcfmaeonginefaaDoorTSet
import Derived.Sort.Walk0
namespace Go.Proofs.YtcfmaeonginefaaDoor.Ord
open Go Go.Sort Go.Proofs.YtcfmaeonginefaaDoor.Sets Go.Proofs.YtcfmaeonginefaaDoor.Put Go.Proofs.YtcfmaeonginefaaDoor.Set14 Go.Proofs.YtcfmaeonginefaaDoor.Sorted Go.Proofs.YtcfmaeonginefaaDoor.TSet
set_option linter.unusedSimpArgs false
set_option linter.unusedVariables false

abbrev bl (a b : List UInt8) : Bool := Op.bytesLess a b
theorem bl_cons (a b : UInt8) (x y : List UInt8) : bl (a :: x) (b :: y) = (decide (a < b) || (a == b && bl x y)) := rfl
theorem bl_iff (a b : UInt8) (x y : List UInt8) : bl (a :: x) (b :: y) = true ↔ a.toNat < b.toNat ∨ (a.toNat = b.toNat ∧ bl x y = true) := by
  rw [bl_cons, Bool.or_eq_true, Bool.and_eq_true, decide_eq_true_iff, beq_iff_eq, UInt8.lt_iff_toNat_lt]
  constructor
  · rintro (h | ⟨rfl, h⟩)
    · exact .inl h
    · exact .inr ⟨rfl, h⟩
  · rintro (h | ⟨h, k⟩)
    · exact .inl h
    · exact .inr ⟨UInt8.toNat_inj.1 h, k⟩
theorem bl_trans : ∀ a b c : List UInt8, bl a b = true → bl b c = true → bl a c = true
  | [], _, [], _, h => by rename_i b _; cases b <;> cases h
  | [], _, _ :: _, _, _ => rfl
  | _ :: _, [], _, h, _ => by cases h
  | _ :: _, _ :: _, [], _, h => by cases h
  | a :: x, b :: y, c :: z, h, k => by
    rw [bl_iff] at h k ⊢
    rcases h with h | ⟨h, h2⟩
    · rcases k with k | ⟨k, _⟩
      · exact .inl (by omega)
      · exact .inl (by omega)
    · rcases k with k | ⟨k, k2⟩
      · exact .inl (by omega)
      · exact .inr ⟨by omega, bl_trans x y z h2 k2⟩
theorem bl_irr : ∀ a : List UInt8, bl a a = false
  | [] => rfl
  | a :: x => by
    cases h : bl (a :: x) (a :: x) with
    | false => rfl
    | true =>
      rw [bl_iff] at h
      rcases h with h | ⟨_, h⟩
      · omega
      · rw [bl_irr x] at h; cases h
theorem bl_tri : ∀ a b : List UInt8, bl a b = true ∨ a = b ∨ bl b a = true
  | [], [] => .inr (.inl rfl)
  | [], _ :: _ => .inl rfl
  | _ :: _, [] => .inr (.inr rfl)
  | a :: x, b :: y => by
    rw [bl_iff, bl_iff]
    rcases Nat.lt_trichotomy a.toNat b.toNat with h | h | h
    · exact .inl (.inl h)
    · rcases bl_tri x y with k | k | k
      · exact .inl (.inr ⟨h, k⟩)
      · exact .inr (.inl (by rw [UInt8.toNat_inj.1 h, k]))
      · exact .inr (.inr (.inr ⟨h.symm, k⟩))
    · exact .inr (.inr (.inl h))
theorem bl_asym {a b : List UInt8} (h : bl a b = true) : bl b a = false := by
  cases k : bl b a with
  | false => rfl
  | true => have := bl_trans a b a h k; rw [bl_irr] at this; cases this
theorem bl_le_lt {a b c : List UInt8} (h : bl b a = false) (k : bl b c = true) : bl a c = true := by
  rcases bl_tri a b with e | rfl | e
  · exact bl_trans a b c e k
  · exact k
  · rw [h] at e; cases e
theorem bl_le_ne {a b : List UInt8} (h : bl b a = false) (k : a ≠ b) : bl a b = true := by
  rcases bl_tri a b with e | e | e
  · exact e
  · exact absurd e k
  · rw [h] at e; cases e
theorem bl_le_trans {a b c : List UInt8} (h : bl b a = false) (k : bl c b = false) : bl c a = false := by
  cases e : bl c a with
  | false => rfl
  | true =>
    rcases bl_tri b c with x | rfl | x
    · have := bl_trans b c a x e; rw [h] at this; cases this
    · rw [h] at e; cases e
    · rw [k] at x; cases x

/-- It rises strictly. -/
def SS (l : List (List UInt8)) : Prop := l.Pairwise fun x y => bl x y = true
theorem ss_ext : ∀ {a b : List (List UInt8)}, SS a → SS b → (∀ x, x ∈ a ↔ x ∈ b) → a = b
  | [], [], _, _, _ => rfl
  | [], y :: _, _, _, h => absurd ((h y).2 (by simp)) (by simp)
  | x :: _, [], _, _, h => absurd ((h x).1 (by simp)) (by simp)
  | x :: a, y :: b, ha, hb, h => by
    obtain ⟨ha1, ha2⟩ := List.pairwise_cons.1 ha
    obtain ⟨hb1, hb2⟩ := List.pairwise_cons.1 hb
    have hxy : x = y := by
      rcases List.mem_cons.1 ((h x).1 (by simp)) with e | e
      · exact e
      · rcases List.mem_cons.1 ((h y).2 (by simp)) with e' | e'
        · exact e'.symm
        · have h1 := hb1 x e
          have h2 := ha1 y e'
          rw [bl_asym h1] at h2; cases h2
    subst hxy
    have : a = b := ss_ext ha2 hb2 fun z => by
      constructor
      · intro hz
        rcases List.mem_cons.1 ((h z).1 (by simp [hz])) with e | e
        · have := ha1 z hz; rw [e, bl_irr] at this; cases this
        · exact e
      · intro hz
        rcases List.mem_cons.1 ((h z).2 (by simp [hz])) with e | e
        · have := hb1 z hz; rw [e, bl_irr] at this; cases this
        · exact e
    rw [this]

theorem lst_inj {x y : ByteArray} (h : lst x = lst y) : x = y := by rw [← mk_lst x, h, mk_lst]
theorem ltB_eq (x y : ByteArray) : ltB x y = bl (lst x) (lst y) := by
  unfold ltB lst; rw [ByteArray.toList_eq, ByteArray.toList_eq]
theorem mem_lst {x : ByteArray} {l : List ByteArray} : lst x ∈ l.map lst ↔ x ∈ l := by
  rw [List.mem_map]
  constructor
  · rintro ⟨y, hy, e⟩; rwa [← lst_inj e]
  · intro h; exact ⟨x, h, rfl⟩
theorem mem_insG (s x : ByteArray) : ∀ l, x ∈ insG s l ↔ x = s ∨ x ∈ l
  | [] => by simp [insG]
  | y :: r => by
    unfold insG
    split
    · simp
    · rw [List.mem_cons, mem_insG s x r, List.mem_cons]
      constructor
      · rintro (h | h | h)
        · exact .inr (.inl h)
        · exact .inl h
        · exact .inr (.inr h)
      · rintro (h | h | h)
        · exact .inr (.inl h)
        · exact .inl h
        · exact .inr (.inr h)
theorem ss_insG (s : ByteArray) : ∀ l, SS (l.map lst) → s ∉ l → SS ((insG s l).map lst)
  | [], _, _ => by unfold insG SS; simp
  | y :: r, h, hn => by
    obtain ⟨h1, h2⟩ := List.pairwise_cons.1 h
    unfold insG
    split
    · rename_i hl
      rw [ltB_eq] at hl
      refine List.pairwise_cons.2 ⟨fun z hz => ?_, h⟩
      rcases List.mem_cons.1 hz with e | e
      · rw [e]; exact hl
      · exact bl_trans _ _ _ hl (h1 z e)
    · rename_i hl
      rw [ltB_eq, Bool.not_eq_true] at hl
      have hys : bl (lst y) (lst s) = true := bl_le_ne hl fun e => hn (by rw [lst_inj e]; simp)
      refine List.pairwise_cons.2 ⟨fun z hz => ?_, ss_insG s r h2 fun hm => hn (by simp [hm])⟩
      obtain ⟨u, hu, rfl⟩ := List.mem_map.1 hz
      rcases (mem_insG s u r).1 hu with e | e
      · rw [e]; exact hys
      · exact h1 _ (List.mem_map.2 ⟨u, e, rfl⟩)
theorem mem_putL (s x : ByteArray) (l : List ByteArray) : x ∈ putL l s ↔ x = s ∨ x ∈ l := by
  unfold putL
  split
  · rename_i h
    rw [inL_iff] at h
    exact ⟨.inr, fun k => k.elim (fun e => by rw [e]; exact h) id⟩
  · exact mem_insG s x l
theorem ss_putL (s : ByteArray) (l : List ByteArray) (h : SS (l.map lst)) : SS ((putL l s).map lst) := by
  unfold putL
  split
  · exact h
  · rename_i k
    exact ss_insG s l h fun hm => k (inL_iff.2 hm)
theorem mem_puts (x : ByteArray) : ∀ (l b : List ByteArray), x ∈ l.foldl putL b ↔ x ∈ l ∨ x ∈ b
  | [], b => by simp
  | y :: r, b => by
    rw [List.foldl_cons, mem_puts x r, mem_putL, List.mem_cons]
    constructor
    · rintro (h | h | h)
      · exact .inl (.inr h)
      · exact .inl (.inl h)
      · exact .inr h
    · rintro ((h | h) | h)
      · exact .inr (.inl h)
      · exact .inl h
      · exact .inr (.inr h)
theorem ss_puts : ∀ (l b : List ByteArray), SS (b.map lst) → SS ((l.foldl putL b).map lst)
  | [], _, h => h
  | y :: r, b, h => ss_puts r (putL b y) (ss_putL y b h)
theorem ss_nil : SS (([] : List ByteArray).map lst) := List.Pairwise.nil
theorem ss_base (Un : List ByteArray) (os arch : ByteArray) : SS ((baseL Un os arch).map lst) := by
  unfold baseL
  split
  · exact ss_putL _ _ (ss_putL _ _ (ss_putL _ _ ss_nil))
  · exact ss_putL _ _ (ss_putL _ _ ss_nil)

/-- Each comes after no smaller one. -/
def SL (l : List (List UInt8)) : Prop := l.Pairwise fun x y => bl y x = false
theorem sl_sort (ls : List (List UInt8)) : SL (sortL ls) := by
  have he : (fun x y : List UInt8 => decide (x ≤ y)) = fun x y => !bl y x := by
    funext x y
    show decide (¬ y < x) = !Op.bytesLess y x
    rw [bytesLess_eq, decide_not]
  unfold sortL SL
  rw [he]
  have := List.pairwise_mergeSort (le := fun x y : List UInt8 => !bl y x) (fun a b c h k => by
    simp only [Bool.not_eq_true'] at *
    exact bl_le_trans h k) (fun a b => by
    rcases bl_tri a b with h | h | h
    · rw [bl_asym h]; rfl
    · rw [h, bl_irr]; rfl
    · rw [bl_asym h, Bool.or_comm]; rfl) ls
  exact this.imp fun h => by simpa using h
theorem mem_sort (ls : List (List UInt8)) (x : List UInt8) : x ∈ sortL ls ↔ x ∈ ls := by unfold sortL; exact List.mem_mergeSort
theorem comp_all (zs : List (List UInt8)) (hs : SL zs) : ∀ m, m ≤ zs.length →
    SS (Lib.compactUpTo zs.toArray m) ∧ (∀ y ∈ Lib.compactUpTo zs.toArray m, ∃ j, j < m ∧ zs.toArray[j]! = y) ∧ ∀ j, j < m → zs.toArray[j]! ∈ Lib.compactUpTo zs.toArray m := by
  intro m
  induction m with
  | zero => exact fun _ => ⟨List.Pairwise.nil, (fun y hy => by cases hy), (fun j hj => absurd hj (Nat.not_lt_zero j))⟩
  | succ m ih =>
    intro hm
    obtain ⟨h1, h2, h3⟩ := ih (by omega)
    have hle : ∀ i j, i < j → j < zs.length → bl zs.toArray[j]! zs.toArray[i]! = false := fun i j hij hj => by
      have := List.pairwise_iff_getElem.1 hs i j (by omega) hj hij
      simpa [hj, show i < zs.length by omega] using this
    rw [Lib.compactUpTo_succ]
    cases hk : Lib.keeps zs.toArray m with
    | true =>
      rw [if_pos rfl]
      refine ⟨?_, ?_, ?_⟩
      · refine List.pairwise_append.2 ⟨h1, by simp, fun y hy z hz => ?_⟩
        rw [List.mem_singleton.1 hz]
        obtain ⟨j, hj, rfl⟩ := h2 y hy
        have hne : zs.toArray[m]! ≠ zs.toArray[m - 1]! := by
          unfold Lib.keeps at hk
          rcases of_decide_eq_true hk with e | e
          · omega
          · exact e
        have hlt : bl zs.toArray[m - 1]! zs.toArray[m]! = true := bl_le_ne (hle (m - 1) m (by omega) (by omega)) (fun e => hne e.symm)
        rcases Nat.lt_or_ge j (m - 1) with e | e
        · exact bl_le_lt (hle j (m - 1) e (by omega)) hlt
        · rw [show j = m - 1 by omega]; exact hlt
      · intro y hy
        rcases List.mem_append.1 hy with e | e
        · obtain ⟨j, hj, h⟩ := h2 y e
          exact ⟨j, by omega, h⟩
        · exact ⟨m, by omega, (List.mem_singleton.1 e).symm⟩
      · intro j hj
        rcases Nat.lt_or_ge j m with e | e
        · exact List.mem_append_left _ (h3 j e)
        · rw [show j = m by omega]; simp
    | false =>
      rw [if_neg (by decide), List.append_nil]
      refine ⟨h1, fun y hy => ?_, fun j hj => ?_⟩
      · obtain ⟨j, hj, h⟩ := h2 y hy
        exact ⟨j, by omega, h⟩
      · rcases Nat.lt_or_ge j m with e | e
        · exact h3 j e
        · rw [show j = m by omega]
          unfold Lib.keeps at hk
          have hk' := of_decide_eq_false hk
          have h0 : ¬ m = 0 := fun e => hk' (.inl e)
          have he : zs.toArray[m]! = zs.toArray[m - 1]! := Decidable.byContradiction fun e => hk' (.inr e)
          rw [he]; exact h3 (m - 1) (by omega)
theorem comp_ss (zs : List (List UInt8)) (hs : SL zs) : SS (Lib.compact zs) ∧ ∀ x, x ∈ Lib.compact zs ↔ x ∈ zs := by
  obtain ⟨h1, h2, h3⟩ := comp_all zs hs zs.length (Nat.le_refl _)
  refine ⟨h1, fun x => ⟨fun hx => ?_, fun hx => ?_⟩⟩
  · obtain ⟨j, hj, rfl⟩ := h2 x hx
    simp [hj]
  · obtain ⟨j, hj, rfl⟩ := List.mem_iff_getElem.1 hx
    have := h3 j hj
    show zs[j] ∈ Lib.compactUpTo zs.toArray zs.length
    simpa [hj] using this
theorem map_lst_mk (ls : List (List UInt8)) : (ls.map mkB).map lst = ls := by
  rw [List.map_map]
  exact (List.map_congr_left fun x _ => lst_mk x).trans (List.map_id ls)
theorem map_inj {a b : List ByteArray} (h : a.map lst = b.map lst) : a = b := by
  have := congrArg (List.map mkB) h
  rw [List.map_map, List.map_map] at this
  have e : (mkB ∘ lst) = id := by funext x; exact mk_lst x
  rwa [e, List.map_id, List.map_id] at this
theorem set_eq (OS Un Ar Re more : List ByteArray) (os arch : ByteArray) (rel : Int) : setM OS Un Ar Re more os arch rel = setL OS Un Ar Re more os arch rel := by
  unfold setM setL
  split
  · apply map_inj
    obtain ⟨h1, h2⟩ := comp_ss (sortL ((allL Un Re more os arch rel.toNat).map lst)) (sl_sort _)
    have hc : (compB (sortB (allL Un Re more os arch rel.toNat))).map lst = Lib.compact (sortL ((allL Un Re more os arch rel.toNat).map lst)) := by
      unfold compB sortB
      rw [map_lst_mk, map_lst_mk]
    rw [hc]
    refine ss_ext h1 (ss_puts _ _ (ss_puts _ _ (ss_base _ _ _))) fun x => ?_
    rw [h2, mem_sort]
    obtain ⟨y, rfl⟩ : ∃ y, lst y = x := ⟨mkB x, lst_mk x⟩
    rw [mem_lst, mem_lst, mem_puts, mem_puts]
    unfold allL baseL
    cases hU : inL os Un
    · simp [mem_putL]
      grind
    · simp [mem_putL]
      grind
  · rfl
end Go.Proofs.YtcfmaeonginefaaDoor.Ord
