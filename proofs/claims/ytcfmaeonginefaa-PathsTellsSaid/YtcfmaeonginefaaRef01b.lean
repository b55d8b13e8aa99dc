/- What the reference of layer 1 answers of modules' and imports' paths: the program's words. Plain Lean, no program. -/
import Derived.Test.YtcfmaeonginefaaRef01
namespace Go.Proofs.Ytcfmaeonginefaa.Ref01b
open Go.RowKit Go.Proofs.Ytcfmaeonginefaa.PA Go.Proofs.YtcfmaeonginefaaW.PrintWords Go.Proofs.YtcfmaeonginefaaW.PrintLast
open Go.Proofs.Ytcfmaeonginefaa.Cut Go.Proofs.Ytcfmaeonginefaa.Elems Go.Proofs.Ytcfmaeonginefaa.Collect Go.Proofs.Ytcfmaeonginefaa.Paths Go.Proofs.Ytcfmaeonginefaa.Module Go.Proofs.Ytcfmaeonginefaa.Import Go.Proofs.Ytcfmaeonginefaa.Ref01
set_option linter.unusedSimpArgs false
set_option linter.unusedVariables false

theorem all_bytes (p : UInt8 → Bool) (h : ((List.range 256).all fun n => p n.toUInt8) = true) (b : UInt8) : p b = true := by
  have := List.all_eq_true.1 h b.toNat (List.mem_range.2 b.toNat_lt)
  simpa using this
theorem low_ok (b : UInt8) : inB (low ++ ⟨#[]⟩) b = okC false [45, 46, 95, 126, 47] b := by
  have := all_bytes (fun b => inB (low ++ ⟨#[]⟩) b == okC false [45, 46, 95, 126, 47] b) (by decide +kernel) b
  simpa using this
theorem caps_ok (b : UInt8) : inB (low ++ caps) b = okC true [45, 46, 95, 126, 47, 43] b := by
  have := all_bytes (fun b => inB (low ++ caps) b == okC true [45, 46, 95, 126, 47, 43] b) (by decide +kernel) b
  simpa using this
theorem made_low (s : ByteArray) : s.data.toList.all (okC false [45, 46, 95, 126, 47]) = madeB s ⟨#[]⟩ := by
  unfold madeB; congr 1; funext b; exact (low_ok b).symm
theorem made_caps (s : ByteArray) : s.data.toList.all (okC true [45, 46, 95, 126, 47, 43]) = madeB s caps := by
  unfold madeB; congr 1; funext b; exact (caps_ok b).symm

/-! ### The first and the last byte -/
def last (x : ByteArray) (c : Int) : Bool := if h : 0 < x.size then decide ((x[x.size - 1].toNat : Int) = c) else false
theorem first_eq (x : ByteArray) (h : 0 < x.size) (c : UInt8) : first x c.toNat = decide (x[0] = c) := by
  unfold first; rw [dif_pos h, Bool.eq_iff_iff, decide_eq_true_iff, decide_eq_true_iff, ← UInt8.toNat_inj]; omega
theorem prefix_first (x : ByteArray) (h : 0 < x.size) : Lib.hasPrefix x.data.toList [46] = first x 46 := by
  obtain ⟨⟨l⟩⟩ := x
  cases l with
  | nil => simp [ByteArray.size] at h
  | cons a t =>
    have e := first_eq ⟨⟨a :: t⟩⟩ h 46
    have e46 : ((46 : UInt8).toNat : Int) = 46 := rfl
    rw [e46] at e
    rw [e]
    show ((46 : UInt8) == a && List.isPrefixOf [] t) = decide (a = 46)
    have e2 : List.isPrefixOf ([] : List UInt8) t = true := by cases t <;> rfl
    rw [e2, Bool.and_true, Bool.eq_iff_iff, beq_iff_eq, decide_eq_true_iff]
    exact eq_comm
theorem get_list (x : ByteArray) (i : Nat) (h : i < x.size) : x[i] = x.data.toList[i]'(by rw [size_list]; exact h) := rfl
theorem suffix_last (x : ByteArray) (h : 0 < x.size) : Lib.hasSuffix x.data.toList [46] = last x 46 := by
  unfold last; rw [dif_pos h, get_list x (x.size - 1) (by omega)]
  rw [← Lib.hasSuffix_of_drop]
  have hl := size_list x
  have e : x.data.toList.drop (x.size - 1) = [x.data.toList[x.size - 1]'(by omega)] := by
    rw [drop_cons x (x.size - 1) (by omega), List.drop_of_length_le (by omega)]
  have e1 : decide ([(46 : UInt8)].length ≤ x.data.toList.length) = true := decide_eq_true (by simp; omega)
  rw [e1, Bool.true_and]
  show (x.data.toList.drop (x.data.toList.length - 1) == [46]) = _
  rw [show x.data.toList.length - 1 = x.size - 1 by omega, e, Bool.eq_iff_iff, decide_eq_true_iff, beq_iff_eq]
  constructor
  · intro h; injection h with h _; rw [h]; rfl
  · intro h
    have h46 : (46 : UInt8).toNat = 46 := rfl
    rw [UInt8.toNat_inj.1 (show (x.data.toList[x.size - 1]'(by omega)).toNat = (46 : UInt8).toNat by omega)]
theorem okM_eq (x : ByteArray) (h : 0 < x.size) : okM x = (!(first x 46 || last x 46)) := by unfold okM; rw [prefix_first x h, suffix_last x h]
theorem okI_eq (x : ByteArray) (h : 0 < x.size) : okI x = (!(first x 46 || first x 45 || last x 46)) := by unfold okI; rw [suffix_last x h]
theorem bt_first (x : ByteArray) (h : 0 < x.size) (c : Int) : (bt x 0 = c) ↔ first x c = true := by
  have := bt_get x 0 h
  unfold first; rw [dif_pos h, decide_eq_true_iff]
  show bt x ((0 : Nat) : Int) = c ↔ _
  rw [this]; rfl
theorem bt_last (x : ByteArray) (h : 0 < x.size) (c : Int) : (bt x ((x.size - 1 : Nat) : Int) = c) ↔ last x c = true := by
  have := bt_get x (x.size - 1) (by omega)
  unfold last; rw [dif_pos h, decide_eq_true_iff, this]; rfl
theorem wrap_pred {n : Nat} (h : 0 < n) (h2 : n ≤ 1048576) : wrap64 ((n : Int) - 1) = ((n - 1 : Nat) : Int) := by unfold wrap64; omega

theorem module_l1 (l : List ByteArray) (hl : l.length ≤ 1048577) (hx : ∀ x, x ∈ l → 0 < x.size ∧ x.size ≤ 1048576) : ∀ (d i : Nat), l.length - i = d → i ≤ l.length → Ev (fun k => graftbedref01_Module.l1 k l i) (errB ((l.drop i).all okM))
  | 0, i, hd, hi => by
    have e : l.drop i = [] := List.drop_of_length_le (by omega)
    rw [e]
    refine Ev.step (f := fun _ => some 0) (fun k => ?_) (Ev.now _)
    simp only [graftbedref01_Module.l1]
    rw [if_neg (by omega)]
  | d + 1, i, hd, hi => by
    have hlt : i < l.length := by omega
    obtain ⟨hp, hz⟩ := hx l[i] (List.getElem_mem hlt)
    rw [drop_cons' l i hlt, List.all_cons, okM_eq _ hp]
    have start : ∀ k, graftbedref01_Module.l1 (k + 1) l i = (if (bt l[i] 0) = 46 then (some 10) else (if (bt l[i] ((l[i].size - 1 : Nat) : Int)) = 46 then (some 10) else (graftbedref01_Module.l1 k l ((i + 1 : Nat) : Int)))) := fun k => by
      simp only [graftbedref01_Module.l1]
      rw [if_pos (by omega), if_pos (by omega), rd_get l i hlt, if_pos (by omega), wrap_pred hp hz, if_pos (show (0 : Int) ≤ ((l[i].size - 1 : Nat) : Int) by omega), if_pos (show ((l[i].size - 1 : Nat) : Int) < (l[i].size : Int) by omega), wrap_nat (by omega)]
    cases h1 : first l[i] 46 with
    | true => exact Ev.step (f := fun _ => some 10) (fun k => by rw [start, if_pos ((bt_first _ hp _).2 h1)]) (Ev.now _)
    | false =>
      have n1 : ¬ bt l[i] 0 = 46 := fun h => by rw [(bt_first _ hp _).1 h] at h1; cases h1
      cases h2 : last l[i] 46 with
      | true => exact Ev.step (f := fun _ => some 10) (fun k => by rw [start, if_neg n1, if_pos ((bt_last _ hp _).2 h2)]) (Ev.now _)
      | false =>
        have n2 : ¬ bt l[i] ((l[i].size - 1 : Nat) : Int) = 46 := fun h => by rw [(bt_last _ hp _).1 h] at h2; cases h2
        exact Ev.step (fun k => by rw [start, if_neg n1, if_neg n2]) (by simpa using module_l1 l hl hx d (i + 1) (by omega) (by omega))

theorem noneB_ix (s : ByteArray) (b : UInt8) : (!noneB b.toNat s.data.toList) = decide (0 ≤ ix s b) := by
  rw [← ix_none, Bool.eq_iff_iff]
  simp

theorem module_l0 (l : List ByteArray) (x : ByteArray) (t : List ByteArray) (he : l = x :: t) (hl : l.length ≤ 1048577) (hx : ∀ x, x ∈ l → 0 < x.size ∧ x.size ≤ 1048576) : ∀ (d i : Nat) (dot : Bool), x.size - i = d → i ≤ x.size →
    Ev (fun k => graftbedref01_Module.l0 k l dot i) (errB ((dot || !noneB 46 (x.data.toList.drop i)) && !first x 45 && l.all okM))
  | 0, i, dot, hd, hi => by
    have hp : 0 < x.size := (hx x (by rw [he]; simp)).1
    have e : x.data.toList.drop i = [] := List.drop_of_length_le (by rw [size_list]; omega)
    rw [e]
    have e2 : (!noneB 46 []) = false := rfl
    rw [e2, Bool.or_false]
    have hr : rdOf ByteArray.empty l 0 = x := by rw [he]; rfl
    have hlen : (0 : Int) < (l.length : Int) := by rw [he]; simp only [List.length_cons]; omega
    have start : ∀ k, graftbedref01_Module.l0 (k + 1) l dot i = (if dot = true then (graftbedref01_Module.j2 k l ((bt x 0) == 45)) else (graftbedref01_Module.j2 k l true)) := fun k => by
      simp only [graftbedref01_Module.l0]
      rw [if_pos hlen, hr, if_neg (show ¬ (i : Int) < (x.size : Int) by omega), if_pos (show (0 : Int) < (x.size : Int) by omega)]
    have jt : Ev (fun k => graftbedref01_Module.j2 k l true) 10 := Ev.step (f := fun _ => some 10) (fun k => by simp only [graftbedref01_Module.j2, if_true]) (Ev.now _)
    have jf : Ev (fun k => graftbedref01_Module.j2 k l false) (errB (l.all okM)) := Ev.step (fun k => by simp only [graftbedref01_Module.j2, Bool.false_eq_true, if_false]; rfl) (by simpa using module_l1 l hl hx _ 0 rfl (by omega))
    cases dot with
    | false => exact Ev.step (fun k => by rw [start, if_neg (by simp)]) jt
    | true =>
      cases h1 : first x 45 with
      | true =>
        have : (bt x 0 == 45) = true := by rw [beq_iff_eq]; exact (bt_first _ hp _).2 h1
        exact Ev.step (fun k => by rw [start, if_pos rfl, this]) jt
      | false =>
        have : (bt x 0 == 45) = false := by rw [beq_eq_false_iff_ne]; exact fun h => by rw [(bt_first _ hp _).1 h] at h1; cases h1
        exact Ev.step (fun k => by rw [start, if_pos rfl, this]) (by simpa using jf)
  | d + 1, i, dot, hd, hi => by
    have hz : x.size ≤ 1048576 := (hx x (by rw [he]; simp)).2
    have hlt : i < x.size := by omega
    have hr : rdOf ByteArray.empty l 0 = x := by rw [he]; rfl
    have hlen : (0 : Int) < (l.length : Int) := by rw [he]; simp only [List.length_cons]; omega
    rw [drop_cons x i hlt, noneB_cons]
    cases dot with
    | true =>
      have := module_l0 l x t he hl hx d (i + 1) true (by omega) (by omega)
      rw [Bool.true_or] at this ⊢
      refine Ev.step (fun k => ?_) this
      simp only [graftbedref01_Module.l0]
      rw [if_pos hlen, hr, if_pos (show (i : Int) < (x.size : Int) by omega), if_pos trivial, wrap_nat (by omega)]
    | false =>
      have := module_l0 l x t he hl hx d (i + 1) (decide (((x.data.toList[i]'(by rw [size_list]; exact hlt)).toNat : Int) = 46)) (by omega) (by omega)
      rw [Bool.false_or]
      refine Ev.step (fun k => ?_) this
      simp only [graftbedref01_Module.l0]
      rw [if_pos hlen, hr, if_pos (show (i : Int) < (x.size : Int) by omega), if_neg (by simp), if_pos (show (0 : Int) ≤ (i : Int) by omega), wrap_nat (by omega), bt_get x i hlt]
      rfl

/-- The elements of a text that may be a path. -/
theorem elems_head (s : ByteArray) (hv : validB s = true) : ∃ t, elemsB s = (cutB s 47).1 :: t := by
  unfold validB at hv
  rw [Bool.and_eq_true, Bool.not_eq_true', Bool.or_eq_false_iff] at hv
  unfold elemsB rest
  rw [hv.1.1]
  exact ⟨_, splB_cut 47 s⟩
theorem elems_fine (s : ByteArray) (hs : s.size ≤ 1048576) (hv : validB s = true) : ∀ x, x ∈ elemsB s → 0 < x.size ∧ x.size ≤ 1048576 := fun x hx => by
  unfold validB at hv
  rw [Bool.and_eq_true] at hv
  exact ⟨okE_pos (List.all_eq_true.1 hv.2 x hx), elemsB_size s hs x hx⟩
theorem cut_first (s : ByteArray) (h : 0 < (cutB s 47).1.size) (hs : 0 < s.size) : first (cutB s 47).1 45 = dash s := by
  unfold first dash
  rw [dif_pos h, dif_pos hs]
  have : (cutB s 47).1[0] = s[0] := by
    by_cases hi : 0 ≤ ix s 47
    · have e : (cutB s 47).1 = s.extract 0 (ix s 47).toNat := by unfold cutB; rw [if_pos hi]
      have key : ∀ y : ByteArray, (hy : y = s.extract 0 (ix s 47).toNat) → (hp : 0 < y.size) → y[0] = s[0] := by
        rintro _ rfl hp
        have hd : (s.extract 0 (ix s 47).toNat).data.toList = (s.data.toList.drop 0).take ((ix s 47).toNat - 0) := Lib.extract_data s 0 _
        rw [get_list _ 0 hp, get_list s 0 hs]
        simp only [hd, List.drop_zero, List.getElem_take]
      exact key _ e h
    · have e : (cutB s 47).1 = s := by unfold cutB; rw [if_neg hi]
      have key : ∀ y : ByteArray, (hy : y = s) → (hp : 0 < y.size) → y[0] = s[0] := by
        rintro _ rfl hp; rfl
      exact key _ e h
  rw [this]

theorem module_ev (s : ByteArray) (hs : s.size ≤ 1048576) : Ev (fun k => graftbedref01_Module.f k s) (errB (moduleB s)) := by
  unfold graftbedref01_Module.f
  refine Ev.bind (valid_ev s hs) ?_
  have jt : Ev (fun k => graftbedref01_Module.j0 k s true) 10 := Ev.step (f := fun _ => some 10) (fun k => by simp only [graftbedref01_Module.j0, if_true]) (Ev.now _)
  cases hv : validB s with
  | false =>
    have e : moduleB s = false := by simp only [moduleB, hv, Bool.false_and]
    rw [e, show errB false = 10 from rfl]
    simpa using jt
  | true =>
    have hm := made_ev s ⟨#[45, 46, 95, 126, 47]⟩ false hs (by decide)
    have hm' : s.data.toList.all (okC false (⟨#[45, 46, 95, 126, 47]⟩ : ByteArray).data.toList) = madeB s ⟨#[]⟩ := made_low s
    rw [hm'] at hm
    have hpos : 0 < s.size := by have := valid_size s hv; omega
    obtain ⟨t, ht⟩ := elems_head s hv
    have hf := elems_fine s hs hv
    have hx1 := hf (cutB s 47).1 (by rw [ht]; simp)
    simp only [if_true]
    refine Ev.bind hm ?_
    cases h2 : madeB s ⟨#[]⟩ with
    | false =>
      have e : moduleB s = false := by simp only [moduleB, h2, Bool.false_and, Bool.and_false]
      rw [e, show errB false = 10 from rfl]
      simpa using jt
    | true =>
      have := module_l0 (elemsB s) (cutB s 47).1 t ht (by have := elemsB_length s; omega) hf _ 0 false rfl (by omega)
      rw [List.drop_zero, Bool.false_or, cut_first s hx1.1 hpos] at this
      have e46 : (46 : Int) = ((46 : UInt8).toNat : Int) := rfl
      rw [e46, noneB_ix] at this
      have e : moduleB s = (decide (0 ≤ ix (cutB s 47).1 46) && !dash s && (elemsB s).all okM) := by
        simp only [moduleB, hv, h2, Bool.and_self, Bool.true_and]
        cases dash s <;> simp
      rw [e]
      exact Ev.step (fun k => by simp only [Bool.not_true, graftbedref01_Module.j0, Bool.false_eq_true, if_false]; rfl) (Ev.bind (elems_ev s hs) this)

theorem import_l0 (l : List ByteArray) (hl : l.length ≤ 1048577) (hx : ∀ x, x ∈ l → 0 < x.size ∧ x.size ≤ 1048576) : ∀ (d i : Nat), l.length - i = d → i ≤ l.length → Ev (fun k => graftbedref01_Import.l0 k l i) (errB ((l.drop i).all okI))
  | 0, i, hd, hi => by
    have e : l.drop i = [] := List.drop_of_length_le (by omega)
    rw [e]
    refine Ev.step (f := fun _ => some 0) (fun k => ?_) (Ev.now _)
    simp only [graftbedref01_Import.l0]
    rw [if_neg (by omega)]
  | d + 1, i, hd, hi => by
    have hlt : i < l.length := by omega
    obtain ⟨hp, hz⟩ := hx l[i] (List.getElem_mem hlt)
    rw [drop_cons' l i hlt, List.all_cons, okI_eq _ hp]
    have start : ∀ k, graftbedref01_Import.l0 (k + 1) l i = (if (bt l[i] 0) = 46 then (some 10) else (if (bt l[i] 0) = 45 then (some 10) else (if (bt l[i] ((l[i].size - 1 : Nat) : Int)) = 46 then (some 10) else (graftbedref01_Import.l0 k l ((i + 1 : Nat) : Int))))) := fun k => by
      simp only [graftbedref01_Import.l0]
      rw [if_pos (by omega), if_pos (by omega), rd_get l i hlt, if_pos (by omega), wrap_pred hp hz, if_pos (show (0 : Int) ≤ ((l[i].size - 1 : Nat) : Int) by omega), if_pos (show ((l[i].size - 1 : Nat) : Int) < (l[i].size : Int) by omega), wrap_nat (by omega)]
    cases h1 : first l[i] 46 with
    | true => exact Ev.step (f := fun _ => some 10) (fun k => by rw [start, if_pos ((bt_first _ hp _).2 h1)]) (Ev.now _)
    | false =>
      have n1 : ¬ bt l[i] 0 = 46 := fun h => by rw [(bt_first _ hp _).1 h] at h1; cases h1
      cases h3 : first l[i] 45 with
      | true => exact Ev.step (f := fun _ => some 10) (fun k => by rw [start, if_neg n1, if_pos ((bt_first _ hp _).2 h3)]) (Ev.now _)
      | false =>
        have n3 : ¬ bt l[i] 0 = 45 := fun h => by rw [(bt_first _ hp _).1 h] at h3; cases h3
        cases h2 : last l[i] 46 with
        | true => exact Ev.step (f := fun _ => some 10) (fun k => by rw [start, if_neg n1, if_neg n3, if_pos ((bt_last _ hp _).2 h2)]) (Ev.now _)
        | false =>
          have n2 : ¬ bt l[i] ((l[i].size - 1 : Nat) : Int) = 46 := fun h => by rw [(bt_last _ hp _).1 h] at h2; cases h2
          exact Ev.step (fun k => by rw [start, if_neg n1, if_neg n3, if_neg n2]) (by simpa using import_l0 l hl hx d (i + 1) (by omega) (by omega))
theorem import_ev (s : ByteArray) (hs : s.size ≤ 1048576) : Ev (fun k => graftbedref01_Import.f k s) (errB (importB s)) := by
  unfold graftbedref01_Import.f
  refine Ev.bind (valid_ev s hs) ?_
  have jt : Ev (fun k => graftbedref01_Import.j0 k s true) 10 := Ev.step (f := fun _ => some 10) (fun k => by simp only [graftbedref01_Import.j0, if_true]) (Ev.now _)
  cases hv : validB s with
  | false =>
    have e : importB s = false := by simp only [importB, hv, Bool.false_and]
    rw [e, show errB false = 10 from rfl]
    simpa using jt
  | true =>
    have hm := made_ev s ⟨#[45, 46, 95, 126, 47, 43]⟩ true hs (by decide)
    have hm' : s.data.toList.all (okC true (⟨#[45, 46, 95, 126, 47, 43]⟩ : ByteArray).data.toList) = madeB s caps := made_caps s
    rw [hm'] at hm
    have hf := elems_fine s hs hv
    simp only [if_true]
    refine Ev.bind hm ?_
    cases h2 : madeB s caps with
    | false =>
      have e : importB s = false := by simp only [importB, h2, Bool.false_and, Bool.and_false]
      rw [e, show errB false = 10 from rfl]
      simpa using jt
    | true =>
      have := import_l0 (elemsB s) (by have := elemsB_length s; omega) hf _ 0 rfl (by omega)
      have e : importB s = (elemsB s).all okI := by simp only [importB, hv, h2, Bool.and_self, Bool.true_and]
      rw [e]
      exact Ev.step (fun k => by simp only [Bool.not_true, graftbedref01_Import.j0, Bool.false_eq_true, if_false]; rfl) (Ev.bind (elems_ev s hs) (by simpa using this))
end Go.Proofs.Ytcfmaeonginefaa.Ref01b
