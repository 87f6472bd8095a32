/-
  A slice of flat structs as an argument, with the bounds that a machine's memory sets: strings too.
-/
import Derived.Test.YtmppjgddemlmdaaSxW
import Derived.HandedShaped
set_option linter.unusedSimpArgs false
set_option linter.unusedVariables false
namespace Go.Sx
open Go Go.ChangeShapes Go.WideShapes Go.ChangeAt Go.RowKit

theorem weightsAll_mem {H : Type} {P : Program} {e : TypeId} : ∀ {l : List (DataW H)} {d : DataW H}, d ∈ l → ∀ n ∈ d.weights P e, n ∈ DataW.weightsAll P e l
  | x :: r, d, h, n, hn => by
    simp only [DataW.weightsAll, List.mem_append]
    rcases List.mem_cons.1 h with rfl | h
    · exact .inl hn
    · exact .inr (weightsAll_mem h n hn)

/-- A cell of a plain type, of a size that a machine can hold. -/
def PlainZ (P : Program) (t : TypeId) (v : Value) : Prop :=
  match P.underlying t with
  | some (.int k) => ∃ n, v = .int k n ∧ (Lit.int k n).wf = true
  | some .bool => ∃ b, v = .bool b
  | some .string => ∃ s, v = .string s ∧ s.size ≤ 140737488355328
  | _ => True
theorem PlainZ.int {P : Program} {t : TypeId} {v : Value} {k : IntKind} (ht : P.underlying t = some (.int k)) (h : PlainZ P t v) : ∃ n, v = .int k n ∧ (Lit.int k n).wf = true := by
  unfold PlainZ at h; rw [ht] at h; exact h
theorem PlainZ.bool {P : Program} {t : TypeId} {v : Value} (ht : P.underlying t = some .bool) (h : PlainZ P t v) : ∃ b, v = .bool b := by
  unfold PlainZ at h; rw [ht] at h; exact h
theorem PlainZ.string {P : Program} {t : TypeId} {v : Value} (ht : P.underlying t = some .string) (h : PlainZ P t v) : ∃ s, v = .string s ∧ s.size ≤ 140737488355328 := by
  unfold PlainZ at h; rw [ht] at h; exact h

theorem plainZ_of_trod {H : Type} {enc : TypeId × Value → H} {P : Program} {W : World} {base : Nat} {sp : Nat → Bool} {held : Bool} {n : Nat} {t : TypeId} {v : Value} {x : DataW H × List MemPlace}
    (h : DataW.trod enc P W base sp held n t [v] = some x) (hz : ∀ m ∈ x.1.weights P t, m ≤ reachBytes) : PlainZ P t v := by
  unfold PlainZ
  split
  · rename_i k ht
    obtain ⟨m, hc, _, hw⟩ := DataW.trod_int ht h
    simp at hc
    exact ⟨m, hc, hw⟩
  · rename_i ht
    obtain ⟨b, hc, _⟩ := DataW.trod_bool ht h
    simp at hc
    exact ⟨b, hc⟩
  · rename_i ht
    obtain ⟨s, hc, hx, hw⟩ := DataW.trod_string ht h
    simp at hc
    refine ⟨s, hc, ?_⟩
    rw [hx] at hz
    have := hz s.data.toList.length (by simp [DataW.weights])
    have hlt := reachBytes_lt
    have e : s.data.toList.length = s.size := by simp
    omega
  · trivial

theorem open_rowsZ {H : Type} {enc : TypeId × Value → H} {P : Program} {W : World} {r : Reach} {b0 : Nat} {t e : TypeId} {fs : Array Field} {v : Value} {d : DataW H} {ps : List MemPlace} (ht : P.underlying t = some (.slice e)) (he : P.underlying e = some (.struct fs))
    (hc : P.cellsOf e = fs.size) (hf : flatB P fs = true) (hval : Value.okWide P W r b0 t v) (h : DataW.Trod enc P W 0 (fun _ => true) true t v d ps) (hz : ∀ m ∈ d.weights P t, m ≤ reachBytes) :
    ∃ (s : Sl) (rows : List (List Value)), v = .slice s.p s.len s.cap ∧ rows.length = s.len ∧ s.len ≤ maxLen ∧ s.len * P.bytesOf e ≤ 140737488355328 ∧ (∀ row ∈ rows, row.length = fs.size ∧ ∀ (i : Nat) (f : Field), fs[i]? = some f → ∃ v, row[i]? = some v ∧ PlainZ P f.type v) ∧ RdC s.p (s.len * fs.size) rows.flatten W := by
  obtain ⟨a, len, cap, rfl⟩ := okWide_slice ht hval
  obtain ⟨n, hn⟩ := h
  simp only [Value.cells, List.toList_toArray] at hn
  rcases Go.Deep.open_slice ht hn with ⟨h1, _⟩ | ⟨a', len', cap', m, n', D, Pl, h1, _, hl, hm, hmm, hdx, hx⟩
  · simp at h1
    obtain ⟨rfl, rfl, rfl⟩ := h1
    exact ⟨⟨none, 0, 0⟩, [], rfl, rfl, by simp, by simp, by simp, by simp, fun j v hj => by simp at hj⟩
  · simp at h1
    obtain ⟨rfl, rfl, rfl⟩ := h1
    simp only [if_true] at hmm
    rw [hmm] at hx hdx
    rw [hc] at hx
    have hd : d = .slice ((List.range len).map D) ((List.range (cap - len)).map fun j => D (len + j)) := congrArg Prod.fst hdx
    have hlb : len * P.bytesOf e ≤ 140737488355328 := by
      have h1 : (len + (cap - len)) * P.bytesOf e ≤ reachBytes := hz _ (by rw [hd]; simp [DataW.weights, ht])
      have h2 := reachBytes_lt
      have h3 : len * P.bytesOf e ≤ (len + (cap - len)) * P.bytesOf e := Nat.mul_le_mul_right _ (by omega)
      omega
    have hx' : ∀ i, i < len → ∃ row : List Value, row.length = fs.size ∧ (∀ (j : Nat) (v : Value), row[j]? = some v → W.cell? (a'.add (i * fs.size + j)) = some v) ∧ ∀ (j : Nat) (f : Field), fs[j]? = some f → ∃ v, row[j]? = some v ∧ PlainZ P f.type v := by
      intro i hi
      obtain ⟨cs', g1, g2⟩ := hx i (by omega)
      obtain ⟨_, glen, gcell⟩ := World.cells?_some g1
      have hzD : ∀ m ∈ (D i).weights P e, m ≤ reachBytes := fun m hm => hz m (by
        rw [hd]
        simp only [DataW.weights, ht]
        exact List.mem_cons_of_mem _ (List.mem_append.2 (.inl (weightsAll_mem (List.mem_map.2 ⟨i, by simpa using hi, rfl⟩) m hm))))
      refine ⟨cs', glen, fun j v hv => ?_, fun j f hjf => ?_⟩
      · have hj := (List.getElem?_eq_some_iff.1 hv).1
        rw [← addr_add, gcell j (by omega), hv]
      · obtain ⟨xs, n1, _, gx0, gl, gx, gf⟩ := DataW.trod_struct he g2
        have hj := (Array.getElem?_eq_some_iff.1 hjf).1
        unfold flatB at hf
        rw [List.all_eq_true] at hf
        have hfj := hf j (by simp; omega)
        rw [hjf] at hfj
        simp only [Bool.and_eq_true, beq_iff_eq] at hfj
        have := gf j f hjf
        rw [hfj.1, hfj.2] at this
        obtain ⟨v, hv⟩ : ∃ v, cs'[j]? = some v := ⟨_, List.getElem?_eq_getElem (by omega)⟩
        have ht1 : (cs'.drop j).take 1 = [v] := by
          rw [List.drop_eq_getElem_cons (by omega)]
          have := (List.getElem?_eq_some_iff.1 hv).2
          simp [this]
        rw [ht1] at this
        obtain ⟨y, hy⟩ : ∃ y, xs[j]? = some y := ⟨_, List.getElem?_eq_getElem (by omega)⟩
        rw [hy] at this
        refine ⟨v, hv, plainZ_of_trod this fun m hm => hzD m ?_⟩
        have hDi : D i = .agg (xs.map (·.1)) := congrArg Prod.fst gx0
        rw [hDi]
        simp only [DataW.weights, he]
        refine DataW.weights_mem_each (j := j) (t := f.type) (d := y.1) ?_ ?_ m hm
        · simp [hjf]
        · simp [hy]
    obtain ⟨R, hR⟩ := Go.Deep.choose_lt (α := List Value) (p := fun i row => row.length = fs.size ∧ (∀ (j : Nat) (v : Value), row[j]? = some v → W.cell? (a'.add (i * fs.size + j)) = some v) ∧ ∀ (j : Nat) (f : Field), fs[j]? = some f → ∃ v, row[j]? = some v ∧ PlainZ P f.type v) hx'
    refine ⟨⟨some a', len, cap⟩, (List.range len).map R, rfl, by simp, by simp only; omega, hlb, fun row hrow => ?_, ?_, fun j v hj => ⟨a', rfl, ?_⟩⟩
    · obtain ⟨i, hi, rfl⟩ := List.mem_map.1 hrow
      exact ⟨(hR i (by simpa using hi)).1, (hR i (by simpa using hi)).2.2⟩
    · rw [flatten_length (n := fs.size)]
      · simp
      · intro row hrow
        obtain ⟨i, hi, rfl⟩ := List.mem_map.1 hrow
        exact (hR i (by simpa using hi)).1
    · have hrl : ∀ row ∈ (List.range len).map R, row.length = fs.size := fun row hrow => by
        obtain ⟨i, hi, rfl⟩ := List.mem_map.1 hrow
        exact (hR i (by simpa using hi)).1
      have hlt := (List.getElem?_eq_some_iff.1 hj).1
      rw [flatten_length hrl] at hlt
      simp only [List.length_map, List.length_range] at hlt
      have h0 : 0 < fs.size := Nat.pos_of_ne_zero fun h0 => by rw [h0] at hlt; simp at hlt
      have e1 : j = j / fs.size * fs.size + j % fs.size := by rw [Nat.mul_comm]; exact (Nat.div_add_mod j fs.size).symm
      have hi : j / fs.size < len := Nat.div_lt_of_lt_mul (by rw [Nat.mul_comm]; exact hlt)
      have hm := Nat.mod_lt j h0
      rw [e1, flatten_get hrl _ _ hm] at hj
      rw [e1]
      simp only [List.getElem?_map, List.getElem?_range hi, Option.map_some, Option.bind_some] at hj
      exact (hR _ hi).2.1 _ _ hj

/-- A string as an argument, of a size that a machine can hold. -/
theorem sizedStr {H : Type} {P : Program} {t : TypeId} {s : ByteArray} (hz : ∀ m ∈ (DataW.lit (H := H) (.string s.data.toList)).weights P t, m ≤ reachBytes) : s.size ≤ 140737488355328 := by
  have := hz s.data.toList.length (by simp [DataW.weights])
  have hlt := reachBytes_lt
  have e : s.data.toList.length = s.size := by simp
  omega

/-! ### fields of things in a row -/
theorem flat_set1 {α : Type} {enc : α → List Value} {size : Nat} (he : ∀ x, (enc x).length = size) : ∀ (l : List α) (i j : Nat) (x y : α) (v : Value), l[i]? = some x → j < size → enc y = (enc x).set j v → (l.flatMap enc).set (i * size + j) v = (l.set i y).flatMap enc
  | [], i, j, x, y, v, h, _, _ => by simp at h
  | z :: l, 0, j, x, y, v, h, hj, hy => by
    simp only [List.getElem?_cons_zero, Option.some.injEq] at h
    subst h
    rw [Nat.zero_mul, Nat.zero_add, List.flatMap_cons, List.set_append_left _ _ (by rw [he]; exact hj), List.set_cons_zero, List.flatMap_cons, hy]
  | z :: l, i + 1, j, x, y, v, h, hj, hy => by
    simp only [List.getElem?_cons_succ] at h
    rw [List.flatMap_cons, List.set_append_right _ _ (by rw [he, Nat.succ_mul]; omega), he, Nat.succ_mul, show i * size + size + j - size = i * size + j from by omega, flat_set1 he l i j x y v h hj hy, List.set_cons_succ, List.flatMap_cons]

/-- A field of one of them is written. -/
theorem SlC.put1 {α : Type} {enc : α → List Value} {size : Nat} (he : ∀ x, (enc x).length = size) {w : World} {s : Sl} {l : List α} (h : SlC w s size (l.flatMap enc)) {b o : Nat} (hp : s.p = some ⟨b, o, none⟩) {i : Nat} {x : α} (hx : l[i]? = some x) (y : α) {j off : Nat} (ho : off = o + i * size + j) (hj : j < size) {v : Value} (hy : enc y = (enc x).set j v)
    (hv : v.oneCell' = true) {K : Pr} (k : ∀ w', SlC w' s size ((l.set i y).flatMap enc) → Keeps [b] w w' → K w') : St ⟨b, off, none⟩ v K w := by
  subst ho
  have hi := (List.getElem?_eq_some_iff.1 hx).1
  have hm : (i + 1) * size ≤ l.length * size := Nat.mul_le_mul_right _ hi
  rw [Nat.succ_mul] at hm
  rw [Nat.add_assoc]
  refine h.write hp (by rw [flat_length he]; omega) hv ?_
  intro w' h1 h2
  refine k w' ?_ h2
  rw [← flat_set1 he l i j x y v hx hj hy]
  exact h1

/-- All fields of one of them. -/
theorem SlC.putAll {α : Type} {enc : α → List Value} {size : Nat} (he : ∀ x, (enc x).length = size) {w : World} {s : Sl} {l : List α} (h : SlC w s size (l.flatMap enc)) {b o : Nat} (hp : s.p = some ⟨b, o, none⟩) {i : Nat} (hi : i < l.length) (y : α) (hv : ∀ v ∈ enc y, v.oneCell' = true) {K : Pr}
    (k : ∀ w', SlC w' s size ((l.set i y).flatMap enc) → Keeps [b] w w' → K w') : StR (enc y) ⟨b, o + i * size, none⟩ 0 K w := by
  have hm : (i + 1) * size ≤ l.length * size := Nat.mul_le_mul_right _ hi
  rw [Nat.succ_mul] at hm
  refine h.writes hp (k := i * size) (vs := enc y) (by rw [flat_length he, he]; omega) hv ?_
  intro w' h1 h2
  refine k w' ?_ h2
  rw [← flat_set he l i y hi]
  exact h1

/-- A literal row, and an append of it. -/
theorem NewApp_of {e size bytes m : Nat} {t : TypeId} {z : Array Value} {s : Sl} {K : Sl → Pr} {w : World} {cs new : List Value} (hs : SlC w s size cs) (hl : new.length = m * size) (h1 : ∀ v ∈ new, v.oneCell' = true) (hz : z.size = size)
    (h47 : (s.len + m) * bytes ≤ 140737488355328) (h63 : s.len + m ≤ 9223372036854775807)
    (k : ∀ (r : Sl) (w' : World), SlC w' r size (cs ++ new) → r.len = s.len + m → Keeps (blk s) w w' → (∀ x ∈ blk r, x ∈ blk s ∨ w.heap.size ≤ x) → K r w') : New new.toArray t (fun a => App e size bytes z s m (srcS (some a) m size) K) w := by
  have hka : Keeps [] w (w.alloc (.cells new.toArray t)) := (Keeps.refl [] w).alloc _
  refine App_of (hs.keeps hka (by simp)) ?_ hl h1 hz h47 h63 ?_
  · refine ⟨hl, fun j v hj => ⟨_, rfl, ?_⟩⟩
    rw [add_of, cell_of (hp_alloc_new w _), Nat.zero_add]
    simpa using hj
  · intro r w' h2 h3 h4 h5
    refine k r w' h2 h3 ((hka.mono (m' := blk s) (by simp)).trans h4 (fun x hx => .inl hx)) (fun x hx => ?_)
    · rcases h5 x hx with h | h
      · exact .inl h
      · rw [World.size_alloc] at h; exact .inr (by omega)

/-- A slice of texts as an argument, with the bounds that a machine's memory sets. -/
theorem open_textsZ {H : Type} {enc : TypeId × Value → H} {P : Program} {W : World} {r : Reach} {b0 : Nat} {t e : TypeId} {v : Value} {d : DataW H} {ps : List MemPlace} (ht : P.underlying t = some (.slice e)) (he : P.underlying e = some .string) (hc : P.cellsOf e = 1)
    (hval : Value.okWide P W r b0 t v) (h : DataW.Trod enc P W 0 (fun _ => true) true t v d ps) (hz : ∀ m ∈ d.weights P t, m ≤ reachBytes) :
    ∃ (s : Sl) (ss : List ByteArray), v = .slice s.p s.len s.cap ∧ RdC s.p s.len (ss.map Value.string) W ∧ (∀ x ∈ ss, x.size ≤ 140737488355328) ∧ s.len ≤ maxLen ∧ s.len * P.bytesOf e ≤ 140737488351232 := by
  obtain ⟨a, len, cap, rfl⟩ := okWide_slice ht hval
  obtain ⟨n, hn⟩ := h
  simp only [Value.cells, List.toList_toArray] at hn
  rcases open_strings ht he hc hn with ⟨h1, _⟩ | ⟨a', len', cap', ss, h1, _, hl, hm, hss, hx, hcell, hsz⟩
  · simp at h1
    obtain ⟨rfl, rfl, rfl⟩ := h1
    exact ⟨⟨none, 0, 0⟩, [], rfl, ⟨rfl, fun j v hj => by simp at hj⟩, by simp, by simp, by simp⟩
  · simp at h1
    obtain ⟨rfl, rfl, rfl⟩ := h1
    simp only [if_true] at hss
    have hd : d = .slice (strs (ss.take len)) (strs (ss.drop len)) := congrArg Prod.fst hx
    have hlb : len * P.bytesOf e ≤ 140737488351232 := by
      have h1 : ((strs (H := H) (ss.take len)).length + (strs (H := H) (ss.drop len)).length) * P.bytesOf e ≤ reachBytes := hz _ (by rw [hd]; simp [DataW.weights, ht])
      have h2 : (strs (H := H) (ss.take len)).length = len := by simp [strs]; omega
      rw [h2] at h1
      have h3 : len * P.bytesOf e ≤ (len + (strs (H := H) (ss.drop len)).length) * P.bytesOf e := Nat.mul_le_mul_right _ (by omega)
      have h4 : reachBytes = 140737488351232 := rfl
      omega
    refine ⟨⟨some a', len, cap⟩, ss.take len, rfl, ⟨by simp; omega, fun j v hj => ⟨a', rfl, ?_⟩⟩, fun x hx => ?_, by simp only; omega, hlb⟩
    · rw [List.getElem?_map, Option.map_eq_some_iff] at hj
      obtain ⟨x, hx, rfl⟩ := hj
      have hj' := (List.getElem?_eq_some_iff.1 hx).1
      rw [List.length_take] at hj'
      rw [List.getElem?_take, if_pos (by omega)] at hx
      rw [hcell j (by omega), List.getD, hx]
      rfl
    · have hw : x.data.toList.length ∈ d.weights P t := by
        rw [hd]
        simp only [DataW.weights, ht]
        refine List.mem_cons_of_mem _ (List.mem_append.2 (.inl (weightsAll_mem (d := .lit (.string x.data.toList)) (List.mem_map.2 ⟨x, hx, rfl⟩) _ (by simp [DataW.weights]))))
      have h1 := hz _ hw
      have h2 := reachBytes_lt
      have e : x.data.toList.length = x.size := by simp
      omega

/-- A row of which some package-level variables are laid; the world's shape is handed too. -/
theorem returns_laid {H : Type} {enc : TypeId × Value → H} {a : Assume} {C : Checked} {os : Os} {f : FuncId} {fn : Func} {s : ChangeSpec} {conds : List PathCond} {apart fresh handsOn again : Bool} {X : World → Array Value → Prop}
    (own : ownKnob C.prog.godebug = none) (started : os.Started) (noInit : C.prog.inits.idxOf? f = none) (hfn : C.prog.funcs[f]? = some fn)
    (witness : ∃ (w : World) (tape : Tape) (i : Input), w.os = os ∧ (w.forCall tape i).Shaped C.prog ∧ i.vars = [] ∧ Input.okWide C.prog (w.forCall tape i) .any w.heap.size f i ∧
      ((s.pre enc C.prog fn conds apart (w.forCall tape i).memory i.args ∧ X (w.forCall tape i).memory i.args) ∧ sizedMet enc C.prog fn (OpenSpec.ofChange s) apart (w.forCall tape i).memory i.args) ∧ a.holds C.prog (lone (Frame.enter C.prog f i.args .normal) [] (w.forCall tape i)))
    (contract : ∀ (W : World) (base : Nat) (args : Array Value) (ds gs : List (DataW H)) (before : List MemPlace),
      (∀ (j : Nat) t v, fn.params[j]? = some t → args[j]? = some v → Value.okWide C.prog W .any base t v) →
      DataW.Whole enc C.prog fn.params.toList s.vars apart W args.toList ds gs before →
      (DataW.weightsEach C.prog (fn.params.toList ++ s.plain.varTypes C.prog) (ds ++ gs)).all (· ≤ reachBytes) = true → W.ShapedOpen C.prog →
      Calls C.prog f args W fun e W' => ∃ v, e = .returned v ∧ s.post enc C.prog fn apart fresh handsOn again W args v W') :
    ReturnsInHanded a C os f .any (fun w args => (s.pre enc C.prog fn conds apart w args ∧ X w args) ∧ sizedMet enc C.prog fn (OpenSpec.ofChange s) apart w args) (s.post enc C.prog fn apart fresh handsOn again) := by
  refine returnsInHanded_of_calls own started noInit witness ?_
  intro w tape i _ hsh _ hok hpre hholds
  obtain ⟨_, _, _, fn', hfn', _, _, _, _, hval⟩ := hok
  have e : fn' = fn := Option.some.inj (hfn'.symm.trans hfn)
  subst e
  obtain ⟨⟨⟨ds, gs, before, hw, hc⟩, hx⟩, hz⟩ := hpre
  have hw' := DataW.Whole.of_heap (w' := w.forCall tape i) (by rfl) hw
  refine (contract (w.forCall tape i) w.heap.size i.args ds gs before hval hw' (hz.weights hw) hsh).mono fun e W' ⟨v, he, hp⟩ => ?_
  subst he
  exact ChangeSpec.post_blind hp

end Go.Sx
