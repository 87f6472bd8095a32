/-
  A slice of flat structs, as an argument: its cells.
-/
import Derived.Test.YtmppjgddemlmdaaSxR
import Derived.Deep.Slices
set_option linter.unusedSimpArgs false
set_option linter.unusedVariables false
namespace Go.Sx
open Go Go.ChangeShapes Go.WideShapes Go.ChangeAt Go.RowKit

/-- A cell of a plain type. -/
def Plain (P : Program) (t : TypeId) (v : Value) : Prop :=
  match P.underlying t with
  | some (.int k) => ∃ n, v = .int k n ∧ (Lit.int k n).wf = true
  | some .bool => ∃ b, v = .bool b
  | some .string => ∃ s, v = .string s ∧ s.size ≤ maxLen
  | _ => True

theorem Plain.int {P : Program} {t : TypeId} {v : Value} {k : IntKind} (ht : P.underlying t = some (.int k)) (h : Plain P t v) : ∃ n, v = .int k n ∧ (Lit.int k n).wf = true := by
  unfold Plain at h; rw [ht] at h; exact h
theorem Plain.bool {P : Program} {t : TypeId} {v : Value} (ht : P.underlying t = some .bool) (h : Plain P t v) : ∃ b, v = .bool b := by
  unfold Plain at h; rw [ht] at h; exact h
theorem Plain.string {P : Program} {t : TypeId} {v : Value} (ht : P.underlying t = some .string) (h : Plain P t v) : ∃ s, v = .string s ∧ s.size ≤ maxLen := by
  unfold Plain at h; rw [ht] at h; exact h

theorem plain_of_trod {H : Type} {enc : TypeId × Value → H} {P : Program} {W : World} {base : Nat} {sp : Nat → Bool} {held : Bool} {n : Nat} {t : TypeId} {v : Value} {x : DataW H × List MemPlace}
    (h : DataW.trod enc P W base sp held n t [v] = some x) : Plain P t v := by
  unfold Plain
  split
  · rename_i k ht
    obtain ⟨m, hc, _, hw⟩ := DataW.trod_int ht h
    simp at hc
    exact ⟨m, hc, hw⟩
  · rename_i ht
    obtain ⟨b, hc, _⟩ := DataW.trod_bool ht h
    simp at hc
    exact ⟨b, hc⟩
  · rename_i ht
    obtain ⟨s, hc, _, hw⟩ := DataW.trod_string ht h
    simp at hc
    exact ⟨s, hc, hw⟩
  · trivial

/-- Each field one cell, one behind the other. -/
def flatB (P : Program) (fs : Array Field) : Bool := (List.range fs.size).all fun i => match fs[i]? with | some f => f.offset == i && P.cellsOf f.type == 1 | none => false

theorem addr_add (a : Addr) (i j : Nat) : (a.add i).add j = a.add (i + j) := by unfold Addr.add; split <;> split <;> split <;> simp_all <;> omega

theorem flatten_length {n : Nat} : ∀ {rows : List (List Value)}, (∀ r ∈ rows, r.length = n) → rows.flatten.length = rows.length * n
  | [], _ => by simp
  | r :: rows, h => by
    rw [List.flatten_cons, List.length_append, flatten_length fun r hr => h r (List.mem_cons_of_mem _ hr), h r List.mem_cons_self, List.length_cons, Nat.succ_mul]
    omega

theorem flatten_get {n : Nat} : ∀ {rows : List (List Value)}, (∀ r ∈ rows, r.length = n) → ∀ (i j : Nat), j < n → rows.flatten[i * n + j]? = rows[i]?.bind fun r => r[j]?
  | [], _, i, j, _ => by simp
  | r :: rows, h, i, j, hj => by
    have hr := h r List.mem_cons_self
    rw [List.flatten_cons]
    cases i with
    | zero => rw [Nat.zero_mul, Nat.zero_add, List.getElem?_append_left (by omega)]; rfl
    | succ i =>
      rw [List.getElem?_append_right (by rw [Nat.succ_mul]; omega), hr, Nat.succ_mul, show i * n + n + j - n = i * n + j from by omega, flatten_get (fun r hr => h r (List.mem_cons_of_mem _ hr)) i j hj]
      simp

theorem open_rows {H : Type} {enc : TypeId × Value → H} {P : Program} {W : World} {r : Reach} {b0 : Nat} {t e : TypeId} {fs : Array Field} {v : Value} {d : DataW H} {ps : List MemPlace} (ht : P.underlying t = some (.slice e)) (he : P.underlying e = some (.struct fs))
    (hc : P.cellsOf e = fs.size) (hf : flatB P fs = true) (hval : Value.okWide P W r b0 t v) (h : DataW.Trod enc P W 0 (fun _ => true) true t v d ps) :
    ∃ (s : Sl) (rows : List (List Value)), v = .slice s.p s.len s.cap ∧ rows.length = s.len ∧ s.len ≤ maxLen ∧ (∀ row ∈ rows, row.length = fs.size ∧ ∀ (i : Nat) (f : Field), fs[i]? = some f → ∃ v, row[i]? = some v ∧ Plain P f.type v) ∧ RdC s.p (s.len * fs.size) rows.flatten W := by
  obtain ⟨a, len, cap, rfl⟩ := okWide_slice ht hval
  obtain ⟨n, hn⟩ := h
  simp only [Value.cells, List.toList_toArray] at hn
  rcases Go.Deep.open_slice ht hn with ⟨h1, _⟩ | ⟨a', len', cap', m, n', D, Pl, h1, _, hl, hm, hmm, _, hx⟩
  · simp at h1
    obtain ⟨rfl, rfl, rfl⟩ := h1
    exact ⟨⟨none, 0, 0⟩, [], rfl, rfl, by simp, by simp, by simp, fun j v hj => by simp at hj⟩
  · simp at h1
    obtain ⟨rfl, rfl, rfl⟩ := h1
    simp only [if_true] at hmm
    rw [hmm] at hx
    rw [hc] at hx
    have hx' : ∀ i, i < len → ∃ row : List Value, row.length = fs.size ∧ (∀ (j : Nat) (v : Value), row[j]? = some v → W.cell? (a'.add (i * fs.size + j)) = some v) ∧ ∀ (j : Nat) (f : Field), fs[j]? = some f → ∃ v, row[j]? = some v ∧ Plain P f.type v := by
      intro i hi
      obtain ⟨cs', g1, g2⟩ := hx i (by omega)
      obtain ⟨_, glen, gcell⟩ := World.cells?_some g1
      refine ⟨cs', glen, fun j v hv => ?_, fun j f hjf => ?_⟩
      · have hj := (List.getElem?_eq_some_iff.1 hv).1
        rw [← addr_add, gcell j (by omega), hv]
      · obtain ⟨xs, n1, _, _, gl, gx, gf⟩ := DataW.trod_struct he g2
        have hj := (Array.getElem?_eq_some_iff.1 hjf).1
        unfold flatB at hf
        rw [List.all_eq_true] at hf
        have hfj := hf j (by simp; omega)
        rw [hjf] at hfj
        simp only [Bool.and_eq_true, beq_iff_eq] at hfj
        have := gf j f hjf
        rw [hfj.1, hfj.2] at this
        obtain ⟨v, hv⟩ : ∃ v, cs'[j]? = some v := ⟨_, List.getElem?_eq_getElem (by omega)⟩
        have ht1 : (cs'.drop j).take 1 = [v] := by
          rw [List.drop_eq_getElem_cons (by omega)]
          have := (List.getElem?_eq_some_iff.1 hv).2
          simp [this]
        rw [ht1] at this
        obtain ⟨y, hy⟩ : ∃ y, xs[j]? = some y := ⟨_, List.getElem?_eq_getElem (by omega)⟩
        rw [hy] at this
        exact ⟨v, hv, plain_of_trod this⟩
    obtain ⟨R, hR⟩ := Go.Deep.choose_lt (α := List Value) (p := fun i row => row.length = fs.size ∧ (∀ (j : Nat) (v : Value), row[j]? = some v → W.cell? (a'.add (i * fs.size + j)) = some v) ∧ ∀ (j : Nat) (f : Field), fs[j]? = some f → ∃ v, row[j]? = some v ∧ Plain P f.type v) hx'
    refine ⟨⟨some a', len, cap⟩, (List.range len).map R, rfl, by simp, by simp only; omega, fun row hrow => ?_, ?_, fun j v hj => ⟨a', rfl, ?_⟩⟩
    · obtain ⟨i, hi, rfl⟩ := List.mem_map.1 hrow
      exact ⟨(hR i (by simpa using hi)).1, (hR i (by simpa using hi)).2.2⟩
    · rw [flatten_length (n := fs.size)]
      · simp
      · intro row hrow
        obtain ⟨i, hi, rfl⟩ := List.mem_map.1 hrow
        exact (hR i (by simpa using hi)).1
    · have hrl : ∀ row ∈ (List.range len).map R, row.length = fs.size := fun row hrow => by
        obtain ⟨i, hi, rfl⟩ := List.mem_map.1 hrow
        exact (hR i (by simpa using hi)).1
      have hlt := (List.getElem?_eq_some_iff.1 hj).1
      rw [flatten_length hrl] at hlt
      simp only [List.length_map, List.length_range] at hlt
      have h0 : 0 < fs.size := Nat.pos_of_ne_zero fun h0 => by rw [h0] at hlt; simp at hlt
      have e1 : j = j / fs.size * fs.size + j % fs.size := by rw [Nat.mul_comm]; exact (Nat.div_add_mod j fs.size).symm
      have hi : j / fs.size < len := Nat.div_lt_of_lt_mul (by rw [Nat.mul_comm]; exact hlt)
      have hm := Nat.mod_lt j h0
      rw [e1, flatten_get hrl _ _ hm] at hj
      rw [e1]
      simp only [List.getElem?_map, List.getElem?_range hi, Option.map_some, Option.bind_some] at hj
      exact (hR _ hi).2.1 _ _ hj

/-- A list of rows, each some thing's cells. -/
theorem rows_of {α : Type} {enc : α → List Value} : ∀ {rows : List (List Value)}, (∀ row ∈ rows, ∃ x, row = enc x) → ∃ xs : List α, rows.flatten = xs.flatMap enc ∧ rows.length = xs.length
  | [], _ => ⟨[], rfl, rfl⟩
  | row :: rows, h => by
    obtain ⟨x, rfl⟩ := h row List.mem_cons_self
    obtain ⟨xs, h1, h2⟩ := rows_of fun r hr => h r (List.mem_cons_of_mem _ hr)
    exact ⟨x :: xs, by simp [h1], by simp [h2]⟩

end Go.Sx
