/-
  Structs within structs as arguments: their cells, one behind the other.
-/
import Derived.Test.YtmppjgddemlmdaaSxX
set_option linter.unusedSimpArgs false
set_option linter.unusedVariables false
namespace Go.Sx
open Go Go.ChangeShapes Go.WideShapes Go.ChangeAt Go.RowKit

/-- The types of the cells of a row of fields that begins at a place. -/
def leavesF (P : Program) (rec : TypeId → Option (List TypeId)) : List Field → Nat → Option (List TypeId)
  | [], _ => some []
  | f :: r, off => if f.offset = off then match rec f.type with
      | some l => if l.length = P.cellsOf f.type then (leavesF P rec r (off + l.length)).map (l ++ ·) else none
      | none => none
    else none
/-- The types of a type's cells. -/
def leaves (P : Program) : Nat → TypeId → Option (List TypeId)
  | 0, _ => none
  | n + 1, t => match P.underlying t with
    | some (.struct fs) => leavesF P (leaves P n) fs.toList 0
    | _ => if P.cellsOf t = 1 then some [t] else none

theorem leavesF_at {P : Program} {rec : TypeId → Option (List TypeId)} : ∀ {fs : List Field} {off : Nat} {L : List TypeId}, leavesF P rec fs off = some L → ∀ (j : Nat) (ft : TypeId), L[j]? = some ft →
    ∃ (k : Nat) (f : Field) (l : List TypeId) (i : Nat), fs[k]? = some f ∧ rec f.type = some l ∧ l.length = P.cellsOf f.type ∧ l[i]? = some ft ∧ off + j = f.offset + i ∧ f.offset + l.length ≤ off + L.length
  | [], off, L, h, j, ft, hj => by
    simp only [leavesF, Option.some.injEq] at h
    subst h
    simp at hj
  | f :: r, off, L, h, j, ft, hj => by
    unfold leavesF at h
    split at h
    · rename_i ho
      split at h
      · rename_i l hl
        split at h
        · rename_i hc
          rw [Option.map_eq_some_iff] at h
          obtain ⟨L', h', rfl⟩ := h
          by_cases hlt : j < l.length
          · rw [List.getElem?_append_left hlt] at hj
            exact ⟨0, f, l, j, rfl, hl, hc, hj, by omega, by rw [List.length_append]; omega⟩
          · rw [List.getElem?_append_right (by omega)] at hj
            obtain ⟨k, f', l', i, h1, h2, h3, h4, h5, h6⟩ := leavesF_at h' _ ft hj
            exact ⟨k + 1, f', l', i, h1, h2, h3, h4, by omega, by rw [List.length_append]; omega⟩
        · cases h
      · cases h
    · cases h

theorem leaves_trod {H : Type} {enc : TypeId × Value → H} {P : Program} {W : World} {base : Nat} {sp : Nat → Bool} {held : Bool} : ∀ {k : Nat} {t : TypeId} {L : List TypeId} {n : Nat} {cs : List Value} {x : DataW H × List MemPlace},
    leaves P k t = some L → L.length = P.cellsOf t → DataW.trod enc P W base sp held n t cs = some x → (∀ m ∈ x.1.weights P t, m ≤ reachBytes) → cs.length = P.cellsOf t → ∀ (j : Nat) (ft : TypeId), L[j]? = some ft → ∃ v, cs[j]? = some v ∧ PlainZ P ft v
  | 0, t, L, n, cs, x, hL, _, _, _, _, _, _, _ => by simp [leaves] at hL
  | k + 1, t, L, n, cs, x, hL, hlen, h, hz, hcs, j, ft, hj => by
    unfold leaves at hL
    split at hL
    · rename_i fs he
      obtain ⟨xs, n1, _, gx0, gl, gx, gf⟩ := DataW.trod_struct he h
      obtain ⟨q, f, l, i, h1, h2, h3, h4, h5, h6⟩ := leavesF_at hL j ft hj
      rw [Array.getElem?_toList] at h1
      have hg := gf q f h1
      have hq := (Array.getElem?_eq_some_iff.1 h1).1
      obtain ⟨y, hy⟩ : ∃ y, xs[q]? = some y := ⟨_, List.getElem?_eq_getElem (by omega)⟩
      rw [hy] at hg
      have hi := (List.getElem?_eq_some_iff.1 h4).1
      have hzf : ∀ m ∈ y.1.weights P f.type, m ≤ reachBytes := fun m hm => hz m (by
        have hx1 : x.1 = .agg (xs.map (·.1)) := congrArg Prod.fst gx0
        rw [hx1]
        simp only [DataW.weights, he]
        refine DataW.weights_mem_each (j := q) (t := f.type) (d := y.1) ?_ ?_ m hm
        · simp [h1]
        · simp [hy])
      have hcl : ((cs.drop f.offset).take (P.cellsOf f.type)).length = P.cellsOf f.type := by rw [List.length_take, List.length_drop]; omega
      obtain ⟨v, hv, hp⟩ := leaves_trod h2 h3 hg hzf hcl i ft h4
      refine ⟨v, ?_, hp⟩
      rw [List.getElem?_take, if_pos (by omega), List.getElem?_drop] at hv
      rw [show j = f.offset + i from by omega]
      exact hv
    · split at hL
      · rename_i hone
        simp only [Option.some.injEq] at hL
        subst hL
        obtain ⟨v, rfl⟩ : ∃ v, cs = [v] := List.length_eq_one_iff.1 (by omega)
        have hj0 := (List.getElem?_eq_some_iff.1 hj).1
        simp only [List.length_singleton] at hj0
        obtain rfl : j = 0 := by omega
        simp only [List.getElem?_cons_zero, Option.some.injEq] at hj
        subst hj
        exact ⟨v, rfl, plainZ_of_trod h hz⟩
      · cases hL
/-- A slice of structs, nested ones too. -/
theorem open_rowsN {H : Type} {enc : TypeId × Value → H} {P : Program} {W : World} {r : Reach} {b0 : Nat} {t e : TypeId} {L : List TypeId} {k : Nat} {v : Value} {d : DataW H} {ps : List MemPlace} (ht : P.underlying t = some (.slice e)) 
    (hL : leaves P k e = some L) (hc : P.cellsOf e = L.length) (hval : Value.okWide P W r b0 t v) (h : DataW.Trod enc P W 0 (fun _ => true) true t v d ps) (hz : ∀ m ∈ d.weights P t, m ≤ reachBytes) :
    ∃ (s : Sl) (rows : List (List Value)), v = .slice s.p s.len s.cap ∧ rows.length = s.len ∧ s.len ≤ maxLen ∧ s.len * P.bytesOf e ≤ 140737488355328 ∧ (∀ row ∈ rows, row.length = L.length ∧ ∀ (i : Nat) (ft : TypeId), L[i]? = some ft → ∃ v, row[i]? = some v ∧ PlainZ P ft v) ∧ RdC s.p (s.len * L.length) rows.flatten W := by
  obtain ⟨a, len, cap, rfl⟩ := okWide_slice ht hval
  obtain ⟨n, hn⟩ := h
  simp only [Value.cells, List.toList_toArray] at hn
  rcases Go.Deep.open_slice ht hn with ⟨h1, _⟩ | ⟨a', len', cap', m, n', D, Pl, h1, _, hl, hm, hmm, hdx, hx⟩
  · simp at h1
    obtain ⟨rfl, rfl, rfl⟩ := h1
    exact ⟨⟨none, 0, 0⟩, [], rfl, rfl, by simp, by simp, by simp, by simp, fun j v hj => by simp at hj⟩
  · simp at h1
    obtain ⟨rfl, rfl, rfl⟩ := h1
    simp only [if_true] at hmm
    rw [hmm] at hx hdx
    rw [hc] at hx
    have hd : d = .slice ((List.range len).map D) ((List.range (cap - len)).map fun j => D (len + j)) := congrArg Prod.fst hdx
    have hlb : len * P.bytesOf e ≤ 140737488355328 := by
      have h1 : (len + (cap - len)) * P.bytesOf e ≤ reachBytes := hz _ (by rw [hd]; simp [DataW.weights, ht])
      have h2 := reachBytes_lt
      have h3 : len * P.bytesOf e ≤ (len + (cap - len)) * P.bytesOf e := Nat.mul_le_mul_right _ (by omega)
      omega
    have hx' : ∀ i, i < len → ∃ row : List Value, row.length = L.length ∧ (∀ (j : Nat) (v : Value), row[j]? = some v → W.cell? (a'.add (i * L.length + j)) = some v) ∧ ∀ (j : Nat) (ft : TypeId), L[j]? = some ft → ∃ v, row[j]? = some v ∧ PlainZ P ft v := by
      intro i hi
      obtain ⟨cs', g1, g2⟩ := hx i (by omega)
      obtain ⟨_, glen, gcell⟩ := World.cells?_some g1
      have hzD : ∀ m ∈ (D i).weights P e, m ≤ reachBytes := fun m hm => hz m (by
        rw [hd]
        simp only [DataW.weights, ht]
        exact List.mem_cons_of_mem _ (List.mem_append.2 (.inl (weightsAll_mem (List.mem_map.2 ⟨i, by simpa using hi, rfl⟩) m hm))))
      refine ⟨cs', glen, fun j v hv => ?_, fun j f hjf => ?_⟩
      · have hj := (List.getElem?_eq_some_iff.1 hv).1
        rw [← addr_add, gcell j (by omega), hv]
      · exact leaves_trod hL hc.symm g2 hzD (glen.trans hc.symm) j f hjf
    obtain ⟨R, hR⟩ := Go.Deep.choose_lt (α := List Value) (p := fun i row => row.length = L.length ∧ (∀ (j : Nat) (v : Value), row[j]? = some v → W.cell? (a'.add (i * L.length + j)) = some v) ∧ ∀ (j : Nat) (ft : TypeId), L[j]? = some ft → ∃ v, row[j]? = some v ∧ PlainZ P ft v) hx'
    refine ⟨⟨some a', len, cap⟩, (List.range len).map R, rfl, by simp, by simp only; omega, hlb, fun row hrow => ?_, ?_, fun j v hj => ⟨a', rfl, ?_⟩⟩
    · obtain ⟨i, hi, rfl⟩ := List.mem_map.1 hrow
      exact ⟨(hR i (by simpa using hi)).1, (hR i (by simpa using hi)).2.2⟩
    · rw [flatten_length (n := L.length)]
      · simp
      · intro row hrow
        obtain ⟨i, hi, rfl⟩ := List.mem_map.1 hrow
        exact (hR i (by simpa using hi)).1
    · have hrl : ∀ row ∈ (List.range len).map R, row.length = L.length := fun row hrow => by
        obtain ⟨i, hi, rfl⟩ := List.mem_map.1 hrow
        exact (hR i (by simpa using hi)).1
      have hlt := (List.getElem?_eq_some_iff.1 hj).1
      rw [flatten_length hrl] at hlt
      simp only [List.length_map, List.length_range] at hlt
      have h0 : 0 < L.length := Nat.pos_of_ne_zero fun h0 => by rw [h0] at hlt; simp at hlt
      have e1 : j = j / L.length * L.length + j % L.length := by rw [Nat.mul_comm]; exact (Nat.div_add_mod j L.length).symm
      have hi : j / L.length < len := Nat.div_lt_of_lt_mul (by rw [Nat.mul_comm]; exact hlt)
      have hm := Nat.mod_lt j h0
      rw [e1, flatten_get hrl _ _ hm] at hj
      rw [e1]
      simp only [List.getElem?_map, List.getElem?_range hi, Option.map_some, Option.bind_some] at hj
      exact (hR _ hi).2.1 _ _ hj

/-- A struct as an argument, nested ones too: its cells. -/
theorem open_structN {H : Type} {enc : TypeId × Value → H} {P : Program} {W : World} {r : Reach} {b0 base : Nat} {sp : Nat → Bool} {held : Bool} {t : TypeId} {fs : Array Field} {L : List TypeId} {k : Nat} {v : Value} {d : DataW H} {ps : List MemPlace} (ht : P.underlying t = some (.struct fs))
    (hL : leaves P k t = some L) (hc : P.cellsOf t = L.length) (hval : Value.okWide P W r b0 t v) (h : DataW.Trod enc P W base sp held t v d ps) (hz : ∀ m ∈ d.weights P t, m ≤ reachBytes) :
    ∃ row : List Value, v = .agg row.toArray ∧ row.length = L.length ∧ ∀ (i : Nat) (ft : TypeId), L[i]? = some ft → ∃ v, row[i]? = some v ∧ PlainZ P ft v := by
  obtain ⟨cs, rfl, hsz⟩ := okWide_struct ht hval
  obtain ⟨n, hn⟩ := h
  simp only [Value.cells] at hn
  exact ⟨cs.toList, by simp, by simp [hsz, hc], leaves_trod hL hc.symm hn hz (by simp [hsz])⟩
theorem row3_eq {row : List Value} {a b c : Value} (hl : row.length = 3) (h0 : row[0]? = some a) (h1 : row[1]? = some b) (h2 : row[2]? = some c) : row = [a, b, c] := by
  match row, hl with
  | [x, y, z], _ => simp at h0 h1 h2; rw [h0, h1, h2]
end Go.Sx
