/- Own rows of modules and of entries: how they read, and one element more. -/
import Derived.Test.YtcfmaeonginefaaGreatDoorRow7
import Derived.Laws.AppendOwn
namespace Go.Proofs.YtcfmaeonginefaaGreatDoor.Own7
open Go Go.RowKit Go.Shelf Go.Proofs.YtcfmaeonginefaaGreatDoor.Seq Go.Proofs.YtcfmaeonginefaaGreatDoor.Made Go.Proofs.YtcfmaeonginefaaGreatDoor.Row7
set_option linter.unusedSimpArgs false
set_option linter.unusedVariables false

theorem infoM : (Tryz.prog.info? 23).map (fun i => (i.zero, i.size, i.bytes)) = some (some (.agg #[.string ⟨#[]⟩, .string ⟨#[]⟩]), 2, 32) := by kernel_rfl
theorem infoE : (Tryz.prog.info? 38).map (fun i => (i.zero, i.size, i.bytes)) = some (some (.agg #[.string ⟨#[]⟩, .string ⟨#[]⟩, .string ⟨#[]⟩, .slice none 0 0]), 4, 72) := by kernel_rfl
theorem infoT : (Tryz.prog.info? 9).map (fun i => (i.zero, i.size, i.bytes)) = some (some (.string ⟨#[]⟩), 1, 16) := by kernel_rfl

/-- An own row of elements of k cells. -/
def OwnK {α : Type} (enc : α → List Value) (k : Nat) (e : TypeId) (w : World) (B : Nat) (v : Value) (xs : List α) : Prop := w.ownsRow B e k v xs.length (xs.flatMap enc)
theorem flat_at {α : Type} {enc : α → List Value} {k : Nat} (hk : ∀ x, (enc x).length = k) : ∀ (xs : List α) (i : Nat) (h : i < xs.length) (j : Nat), j < k → (xs.flatMap enc)[i * k + j]? = (enc xs[i])[j]?
  | x :: r, 0, _, j, hj => by
    rw [List.flatMap_cons, List.getElem?_append_left (by rw [hk]; omega)]
    simp
  | x :: r, i + 1, h, j, hj => by
    have := flat_at hk r i (by simpa using h) j hj
    rw [List.flatMap_cons, List.getElem?_append_right (by rw [hk, Nat.add_mul]; omega)]
    rw [hk, show (i + 1) * k + j - k = i * k + j by rw [Nat.add_mul]; omega, this]
    rfl
theorem own_shape {α : Type} {enc : α → List Value} {k : Nat} {e : TypeId} {w : World} {B : Nat} {v : Value} {xs : List α} (h : OwnK enc k e w B v xs) :
    ∃ A c, v = .slice A xs.length c ∧ (A = none → c = 0) ∧ xs.length ≤ c ∧ ∀ i, i < xs.length → ∃ g, A = some ⟨g, 0, none⟩ ∧ B ≤ g := by
  obtain ⟨hl, h⟩ := h
  rcases h with ⟨rfl, h0⟩ | ⟨g, cap, cur, rfl, hB, _, hcap, _⟩
  · exact ⟨none, 0, by rw [h0], (fun _ => rfl), by omega, fun i hi => absurd hi (by omega)⟩
  · exact ⟨some ⟨g, 0, none⟩, cap, rfl, (fun h => by cases h), hcap, fun i _ => ⟨g, rfl, hB⟩⟩
theorem own_cell {α : Type} {enc : α → List Value} {k : Nat} {e : TypeId} {w : World} {B : Nat} {g n c : Nat} {xs : List α} (hk : ∀ x, (enc x).length = k) (h : OwnK enc k e w B (.slice (some ⟨g, 0, none⟩) n c) xs) {i : Nat} (hi : i < xs.length) {j : Nat} (hj : j < k) {u : Value} (hu : (enc xs[i])[j]? = some u) :
    w.cell? ⟨g, i * k + j, none⟩ = some u := by
  have := World.ownsRow.cells h rfl (i * k + j) u (by rw [flat_at hk xs i hi j hj, hu])
  rw [WideShapes.add_plain] at this
  simpa using this
theorem rowBelow {W W' : World} {base e sz k : Nat} {v : Value} {xs : List Value} (h : W.ownsRow base e sz v k xs) (hb : Below W.heap.size W W') : W'.ownsRow base e sz v k xs := by
  rcases h with ⟨hl, h⟩
  refine ⟨hl, ?_⟩
  rcases h with h | ⟨g, cap, cur, rfl, hgb0, hgb, r⟩
  · exact .inl h
  · exact .inr ⟨g, cap, cur, rfl, hgb0, (hb.block g (Array.getElem?_eq_some_iff.1 hgb).1).trans hgb, r⟩
theorem own_below {α : Type} {enc : α → List Value} {k : Nat} {e : TypeId} {w w' : World} {B : Nat} {v : Value} {xs : List α} (h : OwnK enc k e w B v xs) (hb : Below w.heap.size w w') : OwnK enc k e w' B v xs := rowBelow h hb
theorem own_nil {α : Type} (enc : α → List Value) (k : Nat) (e : TypeId) (w : World) (B : Nat) : OwnK enc k e w B (.slice none 0 0) [] := ⟨by simp, .inl ⟨rfl, rfl⟩⟩
theorem own_empty {α : Type} (enc : α → List Value) (k : Nat) (e : TypeId) (w : World) (B : Nat) (hB : B ≤ w.heap.size) : OwnK enc k e (w.alloc (.cells #[] e)) B (.slice (some ⟨w.heap.size, 0, none⟩) 0 0) [] :=
  ⟨by simp, .inr ⟨w.heap.size, 0, #[], rfl, hB, World.alloc_heap_new w _, Nat.le_refl _, Nat.zero_le _, by simp, by simp⟩⟩

section
variable {ops : Array Oper} {rest : List Oper} {o : Oper} {a : Act} {Q : Exit → Act → World → Prop}
/-- An element is appended to an own row. -/
theorem appK {α : Type} {enc : α → List Value} {k : Nat} {e t : TypeId} {z : Value} {bytes : Nat} (hk0 : 0 < k) (hk : ∀ x, (enc x).length = k)
    (hinfo : (Tryz.prog.info? e).map (fun i => (i.zero, i.size, i.bytes)) = some (some z, k, bytes)) (hz : z.cells.size = k) (hby : bytes ≤ 100) (ht : Tryz.prog.underlying t = some (.slice e))
    (w0 wr : World) (e' : TypeId) (cs : Array Value) (hg : o.guard = none) (s x : Operand) (hop : o.op = .call { callee := .builtin .append, args := #[s, x], argTypes := #[t, t] })
    (B : Nat) (v : Value) (xs : List α) (y : α) (h1 : ∀ u ∈ enc y, u.oneCell' = true) (hcs : cs.toList = enc y) (hs : a.eval s = v) (hown : OwnK enc k e wr B v xs) (N : Nat) (hx : a.eval x = .slice (some ⟨N, 0, none⟩) 1 1) (hN : wr.heap.size = N) (hB : B ≤ wr.heap.size) (hn : xs.length ≤ 900000)
    (hb : Below B w0 wr)
    (hK : ∀ A c w', OwnK enc k e w' B (.slice A (xs.length + 1) c) (xs ++ [y]) → Below B w0 w' → B ≤ w'.heap.size → wpList Tryz.prog ops Q rest (a.put o.dst (.slice A (xs.length + 1) c)) w') : wpList Tryz.prog ops Q (o :: rest) a (wr.alloc (.cells cs e')) := by
  subst hN
  obtain ⟨i0, hi, hz0, hz1, hz2⟩ := info_parts hinfo
  have hsz : (wr.alloc (.cells cs e')).heap.size = wr.heap.size + 1 := by simp
  refine wpList_append_own _ hg s x t hop B e i0 z k bytes ht hi hz0 hz1 hz2 hz hk0 v xs.length _ hs (hown.alloc _) ⟨wr.heap.size, 0, none⟩ 1 1 (enc y) hx (by rw [hk]; omega) (fun j u hu => ?_) h1 (by unfold maxLen; omega) ?_ (by omega) ?_
  · rw [WideShapes.add_plain]
    simp only [World.cell?]
    rw [World.alloc_heap_new]
    simp only [Option.isSome_none, Bool.false_eq_true, if_false, Nat.zero_add]
    rw [← hcs] at hu
    simpa using hu
  · have : (xs.length + 1) * bytes ≤ 900001 * 100 := Nat.mul_le_mul (by omega) hby
    omega
  · intro v' w' hown' hgr _
    have e2 : xs.flatMap enc ++ enc y = (xs ++ [y]).flatMap enc := by simp
    rw [e2] at hown'
    have hl : (xs ++ [y]).length = xs.length + 1 := by simp
    have hown2 : OwnK enc k e w' B v' (xs ++ [y]) := by unfold OwnK; rw [hl]; exact hown'
    obtain ⟨A', c', rfl, _⟩ := own_shape hown2
    rw [hl] at hown2 ⊢
    have hz := hgr.size
    exact hK A' c' w' hown2 ((hb.alloc hB (.cells cs e')).grown hgr (by omega) fun j ej => ((hown.alloc (.cells cs e')).lt j ej).1) (by omega)
end

def encM (m : ByteArray × ByteArray) : List Value := [.string m.1, .string m.2]
def encE (x : En) : List Value := [.string x.p, .string x.v, .string x.g, x.fv]
def encT (s : ByteArray) : List Value := [.string s]
theorem encM_len (m : ByteArray × ByteArray) : (encM m).length = 2 := rfl
theorem encE_len (x : En) : (encE x).length = 4 := rfl
theorem encM_one (m : ByteArray × ByteArray) : ∀ u ∈ encM m, u.oneCell' = true := by
  intro u hu
  simp [encM] at hu
  rcases hu with rfl | rfl <;> rfl
/-- An own row of modules. -/
def OwnM (w : World) (B : Nat) (v : Value) (ms : List (ByteArray × ByteArray)) : Prop := OwnK encM 2 23 w B v ms
/-- An own row of entries. -/
def OwnE (w : World) (B : Nat) (v : Value) (es : List En) : Prop := OwnK encE 4 38 w B v es
theorem rf_one {w : World} {x : Value} {fl : List (ByteArray × ByteArray)} (h : RF w x fl) : x.oneCell' = true := by
  obtain ⟨A, c, rfl, _⟩ := h; rfl
theorem ownM_rf {w : World} {B : Nat} {v : Value} {ms : List (ByteArray × ByteArray)} (h : OwnM w B v ms) (hn : ms.length ≤ 9223372036854775807) : RF w v ms := by
  obtain ⟨A, c, rfl, hA, hc, hg⟩ := own_shape h
  refine ⟨A, c, rfl, hA, hc, hn, fun i hi => ?_⟩
  obtain ⟨g, rfl, _⟩ := hg i hi
  refine ⟨g, 0, rfl, ?_, ?_⟩
  · rw [Nat.zero_add]; exact own_cell encM_len h hi (j := 0) (by omega) rfl
  · rw [Nat.zero_add]; exact own_cell encM_len h hi (j := 1) (by omega) rfl
theorem ownE_re {w : World} {B : Nat} {v : Value} {es : List En} (h : OwnE w B v es) (hn : es.length ≤ 9223372036854775807) : RE0 w v es := by
  obtain ⟨A, c, rfl, hA, hc, hg⟩ := own_shape h
  refine ⟨A, c, rfl, hA, hc, hn, fun i hi => ?_⟩
  obtain ⟨g, rfl, _⟩ := hg i hi
  refine ⟨g, 0, rfl, ?_, ?_, ?_, ?_⟩
  · rw [Nat.zero_add]; exact own_cell encE_len h hi (j := 0) (by omega) rfl
  · rw [Nat.zero_add]; exact own_cell encE_len h hi (j := 1) (by omega) rfl
  · rw [Nat.zero_add]; exact own_cell encE_len h hi (j := 2) (by omega) rfl
  · rw [Nat.zero_add]; exact own_cell encE_len h hi (j := 3) (by omega) rfl
/-- An entry's files' value stands in one cell. -/
def OneE (x : En) : Prop := x.fv.oneCell' = true
theorem oneE {w : World} {x : En} (h : RF w x.fv x.fl) : OneE x := rf_one h
section
variable {ops : Array Oper} {rest : List Oper} {o : Oper} {a : Act} {Q : Exit → Act → World → Prop}
theorem appM (w0 wr : World) (e' : TypeId) (hg : o.guard = none) (s x : Operand) (hop : o.op = .call { callee := .builtin .append, args := #[s, x], argTypes := #[57, 57] })
    (B : Nat) (v : Value) (xs : List (ByteArray × ByteArray)) (p u : ByteArray) (hs : a.eval s = v) (hown : OwnM wr B v xs) (N : Nat) (hx : a.eval x = .slice (some ⟨N, 0, none⟩) 1 1) (hN : wr.heap.size = N) (hB : B ≤ wr.heap.size) (hn : xs.length ≤ 900000)
    (hb : Below B w0 wr)
    (hK : ∀ A c w', OwnM w' B (.slice A (xs.length + 1) c) (xs ++ [(p, u)]) → Below B w0 w' → B ≤ w'.heap.size → wpList Tryz.prog ops Q rest (a.put o.dst (.slice A (xs.length + 1) c)) w') : wpList Tryz.prog ops Q (o :: rest) a (wr.alloc (.cells #[.string p, .string u] e')) :=
  appK (by decide) encM_len infoM rfl (by decide) Tryz.underlying57 w0 wr e' _ hg s x hop B v xs (p, u) (encM_one (p, u)) rfl hs hown N hx hN hB hn hb hK
theorem appT (w0 wr : World) (e' : TypeId) (hg : o.guard = none) (s x : Operand) (hop : o.op = .call { callee := .builtin .append, args := #[s, x], argTypes := #[32, 32] })
    (B : Nat) (v : Value) (xs : List ByteArray) (y : ByteArray) (hs : a.eval s = v) (hown : OwnK encT 1 9 wr B v xs) (N : Nat) (hx : a.eval x = .slice (some ⟨N, 0, none⟩) 1 1) (hN : wr.heap.size = N) (hB : B ≤ wr.heap.size) (hn : xs.length ≤ 900000)
    (hb : Below B w0 wr)
    (hK : ∀ A c w', OwnK encT 1 9 w' B (.slice A (xs.length + 1) c) (xs ++ [y]) → Below B w0 w' → B ≤ w'.heap.size → wpList Tryz.prog ops Q rest (a.put o.dst (.slice A (xs.length + 1) c)) w') : wpList Tryz.prog ops Q (o :: rest) a (wr.alloc (.cells #[.string y] e')) :=
  appK (enc := encT) (k := 1) (by decide) (fun _ => rfl) infoT rfl (by decide) Tryz.underlying32 w0 wr e' _ hg s x hop B v xs y (fun u hu => by simp [encT] at hu; subst hu; rfl) rfl hs hown N hx hN hB hn hb hK
theorem appE (w0 wr : World) (e' : TypeId) (hg : o.guard = none) (s x : Operand) (hop : o.op = .call { callee := .builtin .append, args := #[s, x], argTypes := #[30, 30] })
    (B : Nat) (v : Value) (xs : List En) (y : En) (hy : OneE y) (hs : a.eval s = v) (hown : OwnE wr B v xs) (N : Nat) (hx : a.eval x = .slice (some ⟨N, 0, none⟩) 1 1) (hN : wr.heap.size = N) (hB : B ≤ wr.heap.size) (hn : xs.length ≤ 900000)
    (hb : Below B w0 wr)
    (hK : ∀ A c w', OwnE w' B (.slice A (xs.length + 1) c) (xs ++ [y]) → Below B w0 w' → B ≤ w'.heap.size → wpList Tryz.prog ops Q rest (a.put o.dst (.slice A (xs.length + 1) c)) w') : wpList Tryz.prog ops Q (o :: rest) a (wr.alloc (.cells #[.string y.p, .string y.v, .string y.g, y.fv] e')) :=
  appK (by decide) encE_len infoE rfl (by decide) Tryz.underlying30 w0 wr e' _ hg s x hop B v xs y (fun u hu => by
    simp [encE] at hu
    rcases hu with rfl | rfl | rfl | rfl
    · rfl
    · rfl
    · rfl
    · exact hy) rfl hs hown N hx hN hB hn hb hK
end
end Go.Proofs.YtcfmaeonginefaaGreatDoor.Own7
