/- What the reference of layer 1 answers: the same words as the program's. Plain Lean, no program. -/
import Derived.Test.YtcfmaeonginefaaPAx1
import Derived.Test.YtcfmaeonginefaaPAx2
import Derived.Test.YtcfmaeonginefaaPAx3
import Derived.Test.YtcfmaeonginefaaPAx4
import Derived.Test.YtcfmaeonginefaaPAx5
import Derived.Test.YtcfmaeonginefaaImport
namespace Go.Proofs.Ytcfmaeonginefaa.Ref01
open Go.RowKit Go.Proofs.Ytcfmaeonginefaa.PA Go.Proofs.YtcfmaeonginefaaW.PrintWords Go.Proofs.YtcfmaeonginefaaW.PrintLast
open Go.Proofs.Ytcfmaeonginefaa.Cut Go.Proofs.Ytcfmaeonginefaa.Elems Go.Proofs.Ytcfmaeonginefaa.Collect Go.Proofs.Ytcfmaeonginefaa.Paths Go.Proofs.Ytcfmaeonginefaa.Module Go.Proofs.Ytcfmaeonginefaa.Import
set_option linter.unusedSimpArgs false
set_option linter.unusedVariables false

theorem wrap_nat {i : Nat} (h : i < 9223372036854775807) : wrap64 ((i : Int) + 1) = ((i + 1 : Nat) : Int) := by unfold wrap64; omega
theorem size_list (s : ByteArray) : s.data.toList.length = s.size := by rw [Array.length_toList]; rfl
theorem bt_get (s : ByteArray) (i : Nat) (h : i < s.size) : bt s (i : Int) = ((s.data.toList[i]'(by rw [size_list]; exact h)).toNat : Int) := by
  simp only [bt, Int.toNat_natCast, h, dite_true]
  rfl
theorem drop_cons (s : ByteArray) (i : Nat) (h : i < s.size) : s.data.toList.drop i = (s.data.toList[i]'(by rw [size_list]; exact h)) :: s.data.toList.drop (i + 1) :=
  List.drop_eq_getElem_cons (by rw [size_list]; exact h)
theorem toList_data (s : ByteArray) : s.toList = s.data.toList := by
  exact Lib.toList_data s

/-! ### Splitting by places -/
def splAcc (c : UInt8) (cur l : List UInt8) : List (List UInt8) := match spl c l with
  | [] => [cur]
  | h :: r => (cur ++ h) :: r
theorem splAcc_nil (c : UInt8) (cur : List UInt8) : splAcc c cur [] = [cur] := by simp [splAcc, spl]
theorem splAcc_hit (c : UInt8) (cur t : List UInt8) : splAcc c cur (c :: t) = cur :: splAcc c [] t := by
  simp only [splAcc, spl, if_true, List.append_nil]
  cases h : spl c t with
  | nil => exact absurd h (spl_ne c t)
  | cons a r => simp
theorem splAcc_miss (c b : UInt8) (cur t : List UInt8) (e : b ≠ c) : splAcc c cur (b :: t) = splAcc c (cur ++ [b]) t := by
  unfold splAcc
  rw [spl_cons b t c e]
  cases h : spl c t with
  | nil => exact absurd h (spl_ne c t)
  | cons a r => simp
theorem splAcc_start (c : UInt8) (l : List UInt8) : splAcc c [] l = spl c l := by
  unfold splAcc
  cases h : spl c l with
  | nil => exact absurd h (spl_ne c l)
  | cons a r => simp
theorem piece_snoc (s : ByteArray) (f i : Nat) (hf : f ≤ i) (h : i < s.size) : (s.data.toList.drop f).take (i + 1 - f) = (s.data.toList.drop f).take (i - f) ++ [s.data.toList[i]'(by rw [size_list]; exact h)] := by
  rw [show i + 1 - f = (i - f) + 1 by omega, List.take_succ_eq_append_getElem (by rw [List.length_drop, size_list]; omega)]
  simp only [List.getElem_drop]
  congr 3
  omega

/-- Elems, from a place on. -/
theorem elems_l0 (s : ByteArray) (hs : s.size ≤ 1048576) : ∀ (d i f : Nat) (acc : List ByteArray), s.size + 1 - i = d → i ≤ s.size + 1 → f ≤ i → acc.length ≤ i → 
    Ev (fun k => graftbedref01_Elems.l0 k s acc f i) (if i = s.size + 1 then acc else acc ++ (splAcc 47 ((s.data.toList.drop f).take (i - f)) (s.data.toList.drop i)).map mk)
  | 0, i, f, acc, hd, hi, hf, ha => by
    obtain rfl : i = s.size + 1 := by omega
    rw [if_pos rfl]
    refine Ev.step (f := fun _ => some acc) (fun k => ?_) (Ev.now _)
    simp only [graftbedref01_Elems.l0]
    rw [if_neg (by omega)]
  | d + 1, i, f, acc, hd, hi, hf, ha => by
    rw [if_neg (by omega)]
    have hx : s.extract f i = mk ((s.data.toList.drop f).take (i - f)) := extract_mk s f i
    have go : ∀ (nf : Nat) (na : List ByteArray), nf ≤ i + 1 → na.length ≤ i + 1 → (∀ k, graftbedref01_Elems.l0 (k + 1) s acc f i = graftbedref01_Elems.l0 k s na nf ((i + 1 : Nat) : Int)) →
        Ev (fun k => graftbedref01_Elems.l0 k s acc f i) (if i + 1 = s.size + 1 then na else na ++ (splAcc 47 ((s.data.toList.drop nf).take (i + 1 - nf)) (s.data.toList.drop (i + 1))).map mk) := fun nf na h1 h2 h3 =>
      Ev.step h3 (elems_l0 s hs d (i + 1) nf na (by omega) (by omega) h1 h2)
    by_cases he : i = s.size
    · have := go (i + 1) (acc ++ [s.extract f i]) (by omega) (by simp; omega) (fun k => by
        simp only [graftbedref01_Elems.l0]
        rw [if_pos (by omega), if_pos (by omega), if_pos (by omega), if_pos (by omega), if_pos (by omega), wrap_nat (by omega)]
        simp only [Int.toNat_natCast])
      rw [if_pos (by omega)] at this
      rw [show s.data.toList.drop i = [] from List.drop_of_length_le (by rw [size_list]; omega), splAcc_nil]
      rw [hx] at this
      simpa using this
    · have hlt : i < s.size := by omega
      rw [drop_cons s i hlt]
      by_cases hc : s.data.toList[i]'(by rw [size_list]; exact hlt) = 47
      · have := go (i + 1) (acc ++ [s.extract f i]) (by omega) (by simp; omega) (fun k => by
          simp only [graftbedref01_Elems.l0]
          rw [if_pos (by omega), if_neg (by omega), if_pos (by omega), if_pos (by omega), if_pos (by rw [bt_get s i hlt, hc]; rfl), if_pos (by omega), if_pos (by omega), if_pos (by omega), wrap_nat (by omega)]
          simp only [Int.toNat_natCast])
        rw [hc, splAcc_hit]
        rw [if_neg (by omega), hx] at this
        simpa using this
      · have := go f acc (by omega) (by omega) (fun k => by
          simp only [graftbedref01_Elems.l0]
          rw [if_pos (by omega), if_neg (by omega), if_pos (by omega), if_pos (by omega), if_neg (by
            rw [bt_get s i hlt]
            intro h
            exact hc (UInt8.toNat_inj.1 (by have h47 : (47 : UInt8).toNat = 47 := rfl; omega))), wrap_nat (by omega)])
        rw [splAcc_miss _ _ _ _ hc]
        rw [if_neg (by omega), piece_snoc s f i hf hlt] at this
        exact this
theorem elems_ev (s : ByteArray) (hs : s.size ≤ 1048576) : Ev (fun k => graftbedref01_Elems.f k s) (elemsB s) := by
  have h := elems_l0 s hs (s.size + 1) 0 0 [] (by omega) (by omega) (by omega) (by simp)
  rw [if_neg (by omega)] at h
  simp only [Nat.sub_self, List.drop_zero, List.take_zero, splAcc_start, List.nil_append] at h
  unfold graftbedref01_Elems.f
  simp only [Option.bind_some]
  unfold elemsB rest splB
  by_cases e : s.toList = ([] : List UInt8)
  · simp only [e, if_true, List.isEmpty_nil, Bool.not_true, Bool.false_eq_true, if_false]
    exact Ev.now _
  · have e2 : s.toList.isEmpty = false := by simpa using e
    simp only [e, if_false, e2, Bool.not_false, if_true]
    exact h

/-! ### fine -/
def noneB (c : Int) (l : List UInt8) : Bool := l.all fun x => !decide ((x.toNat : Int) = c)
theorem fine_l0 (c : Int) (s : ByteArray) (hs : s.size ≤ 1048576) : ∀ (d i : Nat), s.size - i = d → i ≤ s.size → Ev (fun k => graftbedref01_fine.l0 k c s i) (noneB c (s.data.toList.drop i))
  | 0, i, hd, hi => by
    have e : s.data.toList.drop i = [] := List.drop_of_length_le (by rw [size_list]; omega)
    rw [e]
    refine Ev.step (f := fun _ => some true) (fun k => ?_) (Ev.now _)
    simp only [graftbedref01_fine.l0]
    rw [if_neg (by omega)]
  | d + 1, i, hd, hi => by
    have hlt : i < s.size := by omega
    rw [drop_cons s i hlt]
    by_cases hc : ((s.data.toList[i]'(by rw [size_list]; exact hlt)).toNat : Int) = c
    · have e : noneB c ((s.data.toList[i]'(by rw [size_list]; exact hlt)) :: s.data.toList.drop (i + 1)) = false := by
        simp only [noneB, List.all_cons, decide_eq_true hc, Bool.not_true, Bool.false_and]
      rw [e]
      refine Ev.step (f := fun _ => some false) (fun k => ?_) (Ev.now _)
      simp only [graftbedref01_fine.l0]
      rw [if_pos (by omega), if_pos (by omega), if_pos (by rw [bt_get s i hlt]; exact hc)]
    · have e : noneB c ((s.data.toList[i]'(by rw [size_list]; exact hlt)) :: s.data.toList.drop (i + 1)) = noneB c (s.data.toList.drop (i + 1)) := by
        simp only [noneB, List.all_cons, decide_eq_false hc, Bool.not_false, Bool.true_and]
      rw [e]
      refine Ev.step (fun k => ?_) (fine_l0 c s hs d (i + 1) (by omega) (by omega))
      simp only [graftbedref01_fine.l0]
      rw [if_pos (by omega), if_pos (by omega), if_neg (by rw [bt_get s i hlt]; exact hc), wrap_nat (by omega)]
theorem ix_none (s : ByteArray) (b : UInt8) : decide (ix s b < 0) = noneB b.toNat s.data.toList := by
  rw [Bool.eq_iff_iff, decide_eq_true_iff]
  unfold noneB ix
  rw [List.all_eq_true]
  have hg := Lib.indexByte_ge s.data.toList b
  constructor
  · intro h x hx
    have h1 : Lib.indexByte s.data.toList b = -1 := by omega
    obtain ⟨k, hk, rfl⟩ := List.getElem_of_mem hx
    have := Lib.indexByte_none h1 k
    rw [List.getElem?_eq_getElem hk] at this
    simp only [Bool.not_eq_true', decide_eq_false_iff_not]
    intro e
    exact this (congrArg some (UInt8.toNat_inj.1 (by omega)))
  · intro h
    by_cases h1 : Lib.indexByte s.data.toList b = -1
    · omega
    · obtain ⟨o, ho⟩ : ∃ o : Nat, Lib.indexByte s.data.toList b = o := ⟨(Lib.indexByte s.data.toList b).toNat, by omega⟩
      have h2 := (Lib.indexByte_some ho).1
      have := h b (List.mem_of_getElem? h2)
      simp at this
theorem fine_ev (b : UInt8) : Ev (fun k => graftbedref01_fine.f k b.toNat) (fineB b.toNat) := by
  unfold graftbedref01_fine.f fineB
  have hb : b.toNat.toUInt8 = b := by simp
  have hodd : odd.size ≤ 1048576 := by decide
  by_cases h1 : (b.toNat : Int) < 33
  · simp only [h1, if_true]
    have : decide (32 < (b.toNat : Int)) = false := decide_eq_false (by omega)
    rw [this, Bool.false_and, Bool.false_and]
    exact Ev.step (f := fun _ => some false) (fun k => by simp only [graftbedref01_fine.j0, if_true]) (Ev.now _)
  · simp only [h1, if_false]
    have h2 : decide (32 < (b.toNat : Int)) = true := decide_eq_true (by omega)
    rw [h2, Bool.true_and]
    by_cases h3 : (b.toNat : Int) > 126
    · simp only [decide_eq_true h3]
      have : decide ((b.toNat : Int) < 127) = false := decide_eq_false (by omega)
      rw [this, Bool.false_and]
      exact Ev.step (f := fun _ => some false) (fun k => by simp only [graftbedref01_fine.j0, if_true]) (Ev.now _)
    · simp only [decide_eq_false h3]
      have : decide ((b.toNat : Int) < 127) = true := decide_eq_true (by omega)
      rw [this, Bool.true_and]
      have e : decide (ix odd ((b.toNat : Int)).toNat.toUInt8 < 0) = noneB b.toNat odd.data.toList := by
        rw [Int.toNat_natCast, hb]; exact ix_none odd b
      rw [e]
      exact Ev.step (fun k => by simp only [graftbedref01_fine.j0, Bool.false_eq_true, if_false]; rfl) (fine_l0 b.toNat odd hodd odd.size 0 (by omega) (by omega))

/-! ### Valid -/
theorem rd_get (l : List ByteArray) (i : Nat) (h : i < l.length) : rdOf ByteArray.empty l (i : Int) = l[i] := by
  simp [rdOf, List.getD_eq_getElem?_getD, List.getElem?_eq_getElem h]
theorem drop_cons' (l : List ByteArray) (i : Nat) (h : i < l.length) : l.drop i = l[i] :: l.drop (i + 1) := List.drop_eq_getElem_cons h
theorem isEmpty_size (x : ByteArray) : x.toList.isEmpty = decide ((x.size : Int) < 1) := by
  rw [toList_data, Bool.eq_iff_iff, decide_eq_true_iff, List.isEmpty_iff]
  have := size_list x
  constructor
  · intro h; rw [h] at this; simp at this; omega
  · intro h; exact List.eq_nil_of_length_eq_zero (by omega)

mutual
theorem valid_l0 (l : List ByteArray) (hl : l.length ≤ 1048577) (hx : ∀ x, x ∈ l → x.size ≤ 1048576) : ∀ (d i : Nat), l.length - i = d → i ≤ l.length → Ev (fun k => graftbedref01_Valid.l0 k l i) ((l.drop i).all okE)
  | 0, i, hd, hi => by
    have e : l.drop i = [] := List.drop_of_length_le (by omega)
    rw [e]
    refine Ev.step (f := fun _ => some true) (fun k => ?_) (Ev.now _)
    simp only [graftbedref01_Valid.l0]
    rw [if_neg (by omega)]
  | d + 1, i, hd, hi => by
    have hlt : i < l.length := by omega
    rw [drop_cons' l i hlt]
    have hxi := hx l[i] (List.getElem_mem hlt)
    have J : ∀ b : Bool, Ev (fun k => graftbedref01_Valid.j2 k l i b) (!b && ((l[i].data.toList.all fun x => fineB x.toNat) && (l.drop (i + 1)).all okE)) := fun b => by
      cases b with
      | true => exact Ev.step (f := fun _ => some false) (fun k => by simp only [graftbedref01_Valid.j2, if_true]) (Ev.now _)
      | false => exact Ev.step (fun k => by simp only [graftbedref01_Valid.j2, Bool.false_eq_true, if_false]; rfl) (by simpa using valid_l1 l hl hx d i hlt (by omega) l[i].size 0 (by omega) (by omega))
    have fin : ∀ b : Bool, bad0 l[i] = b → (∀ k, graftbedref01_Valid.l0 (k + 1) l i = graftbedref01_Valid.j2 k l i b) → Ev (fun k => graftbedref01_Valid.l0 k l i) ((l[i] :: l.drop (i + 1)).all okE) := fun b hb h => by
      have e : (l[i] :: l.drop (i + 1)).all okE = (!b && ((l[i].data.toList.all fun x => fineB x.toNat) && (l.drop (i + 1)).all okE)) := by
        simp only [List.all_cons, okE, hb, Bool.and_assoc]
      rw [e]
      exact Ev.step h (J b)
    have start : ∀ k, graftbedref01_Valid.l0 (k + 1) l i = (if (l[i].size : Int) < 1 then (graftbedref01_Valid.j2 k l i true) else (if (l[i].size : Int) > 30 then (graftbedref01_Valid.j2 k l i true) else (if l[i].toList = ([46] : List UInt8) then (graftbedref01_Valid.j2 k l i true) else (graftbedref01_Valid.j2 k l i (l[i].toList == ([46, 46] : List UInt8)))))) := fun k => by
      simp only [graftbedref01_Valid.l0]
      rw [if_pos (by omega), if_pos (by omega), rd_get l i hlt]
    by_cases h1 : (l[i].size : Int) < 1
    · exact fin true (by unfold bad0; rw [isEmpty_size, decide_eq_true h1]; rfl) (fun k => by rw [start, if_pos h1])
    · by_cases h2 : (l[i].size : Int) > 30
      · exact fin true (by unfold bad0; rw [decide_eq_true (show 30 < l[i].size by omega)]; simp) (fun k => by rw [start, if_neg h1, if_pos h2])
      · by_cases h3 : l[i].toList = ([46] : List UInt8)
        · exact fin true (by unfold bad0; rw [h3]; simp) (fun k => by rw [start, if_neg h1, if_neg h2, if_pos h3])
        · exact fin (l[i].toList == ([46, 46] : List UInt8)) (by simp only [bad0, isEmpty_size, decide_eq_false h1, decide_eq_false (show ¬ 30 < l[i].size by omega), (by simpa using h3 : (l[i].toList == ([46] : List UInt8)) = false), Bool.false_or]) (fun k => by rw [start, if_neg h1, if_neg h2, if_neg h3])
  termination_by d => (d, 0)
theorem valid_l1 (l : List ByteArray) (hl : l.length ≤ 1048577) (hx : ∀ x, x ∈ l → x.size ≤ 1048576) (d i : Nat) (hlt : i < l.length) (hd : l.length - (i + 1) = d) : ∀ (m j : Nat), l[i].size - j = m → j ≤ l[i].size →
    Ev (fun k => graftbedref01_Valid.l1 k l i j) (((l[i].data.toList.drop j).all fun x => fineB x.toNat) && (l.drop (i + 1)).all okE)
  | 0, j, hm, hj => by
    have hxi := hx l[i] (List.getElem_mem hlt)
    have e : l[i].data.toList.drop j = [] := List.drop_of_length_le (by rw [size_list]; omega)
    rw [e, List.all_nil, Bool.true_and]
    refine Ev.step (fun k => ?_) (valid_l0 l hl hx d (i + 1) (by omega) (by omega))
    simp only [graftbedref01_Valid.l1]
    rw [if_pos (by omega), if_pos (by omega), rd_get l i hlt, if_neg (by omega), wrap_nat (by omega)]
  | m + 1, j, hm, hj => by
    have hxi := hx l[i] (List.getElem_mem hlt)
    have hjl : j < l[i].size := by omega
    rw [drop_cons l[i] j hjl, List.all_cons]
    have start : ∀ k, graftbedref01_Valid.l1 (k + 1) l i j = (graftbedref01_fine.f k (((l[i].data.toList[j]'(by rw [size_list]; exact hjl)).toNat : Nat) : Int)).bind fun t121 => (if t121 = true then (graftbedref01_Valid.l1 k l i ((j + 1 : Nat) : Int)) else (some false)) := fun k => by
      simp only [graftbedref01_Valid.l1]
      rw [if_pos (by omega), if_pos (by omega), rd_get l i hlt, if_pos (by omega), if_pos (by omega), wrap_nat (by omega), bt_get l[i] j hjl]
    refine Ev.step start (Ev.bind (fine_ev _) ?_)
    cases fineB ((l[i].data.toList[j]'(by rw [size_list]; exact hjl)).toNat) with
    | true => simpa using valid_l1 l hl hx d i hlt hd m (j + 1) (by omega) (by omega)
    | false => simpa using Ev.now false
  termination_by m => (d, m + 1)
end
theorem valid_ev (s : ByteArray) (hs : s.size ≤ 1048576) : Ev (fun k => graftbedref01_Valid.f k s) (validB s) := by
  have hl := elemsB_length s
  have hv : Ev (fun k => graftbedref01_Valid.j0 k s false) ((elemsB s).all okE) :=
    Ev.step (fun k => by simp only [graftbedref01_Valid.j0, Bool.false_eq_true, if_false]; rfl) (Ev.bind (elems_ev s hs) (by simpa using valid_l0 (elemsB s) (by omega) (fun x h => elemsB_size s hs x h) _ 0 rfl (by omega)))
  have ht : Ev (fun k => graftbedref01_Valid.j0 k s true) false := Ev.step (f := fun _ => some false) (fun k => by simp only [graftbedref01_Valid.j0, if_true]) (Ev.now _)
  unfold graftbedref01_Valid.f validB
  by_cases h1 : (s.size : Int) < 1
  · simp only [h1, if_true]
    rw [isEmpty_size, decide_eq_true h1]
    exact ht
  · simp only [h1, if_false]
    rw [isEmpty_size, decide_eq_false h1, Bool.false_or]
    by_cases h2 : (60 : Int) < s.size
    · have h2' : (s.size : Int) > 60 := h2
      simp only [decide_eq_true h2, decide_eq_true h2']
      exact ht
    · have h2' : ¬ (s.size : Int) > 60 := h2
      simp only [decide_eq_false h2, decide_eq_false h2']
      exact hv

/-! ### made -/
def okC (upper : Bool) (more : List UInt8) (b : UInt8) : Bool := decide (97 ≤ b.toNat ∧ b.toNat ≤ 122) || decide (48 ≤ b.toNat ∧ b.toNat ≤ 57) || (upper && decide (65 ≤ b.toNat ∧ b.toNat ≤ 90)) || !noneB b.toNat more
theorem noneB_cons (c : Int) (x : UInt8) (l : List UInt8) : (!noneB c (x :: l)) = (decide ((x.toNat : Int) = c) || !noneB c l) := by
  simp only [noneB, List.all_cons, Bool.not_and, Bool.not_not]
mutual
theorem made_l0 (s more : ByteArray) (u : Bool) (hs : s.size ≤ 1048576) (hm : more.size ≤ 1000) : ∀ (d i : Nat), s.size - i = d → i ≤ s.size → Ev (fun k => graftbedref01_made.l0 k s u more i) ((s.data.toList.drop i).all (okC u more.data.toList))
  | 0, i, hd, hi => by
    have e : s.data.toList.drop i = [] := List.drop_of_length_le (by rw [size_list]; omega)
    rw [e]
    refine Ev.step (f := fun _ => some true) (fun k => ?_) (Ev.now _)
    simp only [graftbedref01_made.l0]
    rw [if_neg (by omega)]
  | d + 1, i, hd, hi => by
    have hlt : i < s.size := by omega
    rw [drop_cons s i hlt, List.all_cons]
    generalize hb : s.data.toList[i]'(by rw [size_list]; exact hlt) = b
    have hbt : bt s (i : Int) = b.toNat := by rw [bt_get s i hlt, hb]
    have fin : ∀ a : Bool, (decide (97 ≤ b.toNat ∧ b.toNat ≤ 122) || decide (48 ≤ b.toNat ∧ b.toNat ≤ 57) || (u && decide (65 ≤ b.toNat ∧ b.toNat ≤ 90))) = a → (∀ k, graftbedref01_made.l0 (k + 1) s u more i = graftbedref01_made.j1 k s u more i b.toNat a) → Ev (fun k => graftbedref01_made.l0 k s u more i) (okC u more.data.toList b && (s.data.toList.drop (i + 1)).all (okC u more.data.toList)) := fun a ha h => by
      have e : okC u more.data.toList b = (a || !noneB b.toNat more.data.toList) := by unfold okC; rw [ha]
      rw [e]
      refine Ev.step h (Ev.step (fun k => by simp only [graftbedref01_made.j1]; rfl) ?_)
      have := made_l1 s more u hs hm d i b (by omega) hlt more.size 0 a (by omega) (by omega)
      simpa using this
    have A1 : (b.toNat : Int) ≥ 97 ↔ 97 ≤ b.toNat := by omega
    have A2 : (b.toNat : Int) ≤ 122 ↔ b.toNat ≤ 122 := by omega
    have A3 : (b.toNat : Int) ≥ 48 ↔ 48 ≤ b.toNat := by omega
    have A4 : (b.toNat : Int) ≤ 57 ↔ b.toNat ≤ 57 := by omega
    have A5 : (b.toNat : Int) ≥ 65 ↔ 65 ≤ b.toNat := by omega
    have A6 : (b.toNat : Int) ≤ 90 ↔ b.toNat ≤ 90 := by omega
    refine fin _ rfl (fun k => ?_)
    simp only [graftbedref01_made.l0]
    rw [if_pos (show (i : Int) < (s.size : Int) by omega), if_pos (show (0 : Int) ≤ i by omega), hbt]
    simp only [A1, A2, A3, A4, A5, A6]
    by_cases b1 : 97 ≤ b.toNat
    · by_cases b2 : b.toNat ≤ 122
      · simp only [b1, b2, and_self, if_true, decide_true, Bool.true_or]
      · have b3 : 48 ≤ b.toNat := by omega
        have b4 : ¬ b.toNat ≤ 57 := by omega
        have b5 : 65 ≤ b.toNat := by omega
        have b6 : ¬ b.toNat ≤ 90 := by omega
        cases u <;> simp only [b1, b2, b3, b4, b5, b6, and_false, and_self, if_true, if_false, decide_false, Bool.false_or, Bool.false_and, Bool.and_false, Bool.false_eq_true]
    · by_cases b3 : 48 ≤ b.toNat
      · by_cases b4 : b.toNat ≤ 57
        · simp only [b1, b3, b4, false_and, and_self, if_true, if_false, decide_true, decide_false, Bool.true_or, Bool.false_or]
        · by_cases b5 : 65 ≤ b.toNat
          · cases u <;> simp only [b1, b3, b4, b5, false_and, and_false, true_and, if_true, if_false, decide_false, Bool.false_or, Bool.false_and, Bool.true_and, Bool.false_eq_true]
          · cases u <;> simp only [b1, b3, b4, b5, false_and, and_false, if_true, if_false, decide_false, Bool.false_or, Bool.false_and, Bool.and_false, Bool.false_eq_true]
      · have b5 : ¬ 65 ≤ b.toNat := by omega
        cases u <;> simp only [b1, b3, b5, false_and, if_true, if_false, decide_false, Bool.false_or, Bool.false_and, Bool.and_false, Bool.false_eq_true]
  termination_by d => (d, 0)
theorem made_l1 (s more : ByteArray) (u : Bool) (hs : s.size ≤ 1048576) (hm : more.size ≤ 1000) (d i : Nat) (b : UInt8) (hd : s.size - (i + 1) = d) (hlt : i < s.size) : ∀ (m j : Nat) (a : Bool), more.size - j = m → j ≤ more.size →
    Ev (fun k => graftbedref01_made.l1 k s u more i b.toNat a j) ((a || !noneB b.toNat (more.data.toList.drop j)) && (s.data.toList.drop (i + 1)).all (okC u more.data.toList))
  | 0, j, a, hj, hjl => by
    have e : more.data.toList.drop j = [] := List.drop_of_length_le (by rw [size_list]; omega)
    rw [e]
    have e2 : (!noneB (b.toNat : Int) []) = false := rfl
    rw [e2, Bool.or_false]
    cases a with
    | true =>
      rw [Bool.true_and]
      refine Ev.step (fun k => ?_) (made_l0 s more u hs hm d (i + 1) (by omega) (by omega))
      simp only [graftbedref01_made.l1]
      rw [if_neg (by omega), if_pos trivial, wrap_nat (by omega)]
    | false =>
      rw [Bool.false_and]
      refine Ev.step (f := fun _ => some false) (fun k => ?_) (Ev.now _)
      simp only [graftbedref01_made.l1]
      rw [if_neg (by omega), if_neg (by simp)]
  | m + 1, j, a, hj, hjl => by
    have hjlt : j < more.size := by omega
    rw [drop_cons more j hjlt, noneB_cons]
    cases a with
    | true =>
      have := made_l1 s more u hs hm d i b hd hlt m (j + 1) true (by omega) (by omega)
      rw [Bool.true_or] at this ⊢
      refine Ev.step (fun k => ?_) this
      simp only [graftbedref01_made.l1]
      rw [if_pos (by omega), if_pos trivial, wrap_nat (by omega)]
    | false =>
      have := made_l1 s more u hs hm d i b hd hlt m (j + 1) (decide (((more.data.toList[j]'(by rw [size_list]; exact hjlt)).toNat : Int) = b.toNat)) (by omega) (by omega)
      rw [Bool.false_or]
      refine Ev.step (fun k => ?_) this
      simp only [graftbedref01_made.l1]
      rw [if_pos (by omega), if_neg (by simp), if_pos (by omega), wrap_nat (by omega), bt_get more j hjlt]
      rfl
  termination_by m => (d, m + 1)
end
theorem made_ev (s more : ByteArray) (u : Bool) (hs : s.size ≤ 1048576) (hm : more.size ≤ 1000) : Ev (fun k => graftbedref01_made.f k s u more) (s.data.toList.all (okC u more.data.toList)) := by
  unfold graftbedref01_made.f
  simpa using made_l0 s more u hs hm s.size 0 (by omega) (by omega)
end Go.Proofs.Ytcfmaeonginefaa.Ref01
