/-
  Iterators over maps; arrays in slices and maps; integers in a slice.
-/
import Derived.Test.YtmppjgddemlmdaaSxX
set_option linter.unusedSimpArgs false
set_option linter.unusedVariables false
set_option linter.unusedSectionVars false
namespace Go.Sx
open Go

/-! ### iterators over maps, where nothing is put in meanwhile -/
section
variable {κ : Type} [DecidableEq κ]

/-- The iterator has the keys 'left' before it. -/
structure ItA (ek : κ → Value) (kv : List (κ × Value)) (es : List MapEntry) (c : Nat) (seen : Array Nat) (left : List κ) : Prop where
  mp : MpA ek kv es c
  left : (es.filter (fun e => !seen.contains e.born)).map (·.key) = left.map ek

def ItR (w : World) (it m : Nat) (ek : κ → Value) (kv : List (κ × Value)) (left : List κ) : Prop :=
  ∃ es c seen, w.heap[it]? = some (.mapIter (some m) c seen c) ∧ w.heap[m]? = some (.map es c) ∧ ItA ek kv es.toList c seen left

theorem ItR.mp {w : World} {it m : Nat} {ek : κ → Value} {kv : List (κ × Value)} {left : List κ} (h : ItR w it m ek kv left) : MpR w m ek kv := by
  obtain ⟨es, c, seen, _, h2, h3⟩ := h
  exact ⟨es, c, h2, h3.mp⟩
theorem ItR.keepsL {w w' : World} {it m : Nat} {ek : κ → Value} {kv : List (κ × Value)} {left : List κ} {l : List Nat} (h : ItR w it m ek kv left) (hk : Keeps l w w') (h1 : it ∉ l) (h2 : m ∉ l) : ItR w' it m ek kv left := by
  obtain ⟨es, c, seen, a, b, h3⟩ := h
  exact ⟨es, c, seen, hk.at a h1, hk.at b h2, h3⟩
theorem ItR.keepsP {w w' : World} {it m : Nat} {ek : κ → Value} {kv : List (κ × Value)} {left : List κ} {F : Nat → Prop} (h : ItR w it m ek kv left) (hk : KeepsP F w w') (h1 : ¬ F it) (h2 : ¬ F m) : ItR w' it m ek kv left := by
  obtain ⟨es, c, seen, a, b, h3⟩ := h
  exact ⟨es, c, seen, hk.at a h1, hk.at b h2, h3⟩
theorem ItR.lt {w : World} {it m : Nat} {ek : κ → Value} {kv : List (κ × Value)} {left : List κ} (h : ItR w it m ek kv left) : it < w.heap.size ∧ m < w.heap.size := by
  obtain ⟨es, c, seen, a, b, h3⟩ := h
  exact ⟨hp_lt a, hp_lt b⟩
theorem ItR.ne {w : World} {it m : Nat} {ek : κ → Value} {kv : List (κ × Value)} {left : List κ} (h : ItR w it m ek kv left) : it ≠ m := by
  obtain ⟨es, c, seen, a, b, h3⟩ := h
  intro he
  subst he
  rw [a] at b
  cases b

theorem RgM_of {w : World} {m : Nat} {ek : κ → Value} {kv : List (κ × Value)} (h : MpR w m ek kv) {K : Addr → Pr}
    (k : ∀ w', ItR w' w.heap.size m ek kv (kv.map Prod.fst) → Keeps [] w w' → w'.heap.size = w.heap.size + 1 → K ⟨w.heap.size, 0, none⟩ w') : RgM (some m) K w := by
  obtain ⟨es, c, hb, ha⟩ := h
  refine ⟨es, c, hb, k _ ⟨es, c, #[], hp_alloc_new w _, (hp_alloc_old w _ (hp_lt hb)).trans hb, ha, ?_⟩ ((Keeps.refl _ _).alloc _) (World.size_alloc _ _)⟩
  have := congrArg (List.map Prod.fst) ha.ents
  simp only [List.map_map] at this
  have hf : es.toList.filter (fun e => !(#[] : Array Nat).contains e.born) = es.toList := by
    rw [List.filter_eq_self]
    intro a _
    simp
  rw [hf]
  simpa [Function.comp_def] using this

theorem es_get {ek : κ → Value} {d : TypeDesc} (ho : KeyOk d ek) : ∀ {es : List MapEntry} {kv : List (κ × Value)}, es.map (fun e => (e.key, e.val)) = kv.map (fun p => (ek p.1, p.2)) → (kv.map Prod.fst).Nodup → ∀ e ∈ es, ∃ k, e.key = ek k ∧ aget k kv = some e.val
  | [], kv, h, _, e, he => by simp at he
  | x :: es, kv, h, hn, e, he => by
    cases kv with
    | nil => simp at h
    | cons p r =>
      simp only [List.map_cons, List.cons.injEq, Prod.mk.injEq] at h
      simp only [List.map_cons, List.nodup_cons] at hn
      rcases List.mem_cons.1 he with rfl | he
      · exact ⟨p.1, h.1.1, by simp [aget, h.1.2]⟩
      · obtain ⟨k, h1, h2⟩ := es_get ho h.2 hn.2 e he
        refine ⟨k, h1, ?_⟩
        simp only [aget]
        rw [if_neg, h2]
        intro hk
        have h3 := List.mem_map_of_mem (f := Prod.fst) (aget_mem h2)
        rw [hk] at h3
        exact hn.1 h3

theorem perm_of_map {α β : Type} {f : α → β} (hi : ∀ a b, f a = f b → a = b) : ∀ {l l' : List α}, (l.map f).Perm (l'.map f) → l.Perm l'
  | [], l', h => by
    have := h.length_eq
    simp at this
    rw [List.eq_nil_of_length_eq_zero this.symm]
  | x :: l, l', h => by
    have hm : f x ∈ l'.map f := h.subset (by simp)
    obtain ⟨y, hy, he⟩ := List.mem_map.1 hm
    have hyx := hi _ _ he
    subst hyx
    obtain ⟨a, b, rfl⟩ := List.append_of_mem hy
    have h2 : (f y :: l.map f).Perm (f y :: (a ++ b).map f) := by
      refine (by simpa using h : (f y :: l.map f).Perm ((a ++ y :: b).map f)).trans ?_
      simp
    exact ((perm_of_map hi (List.Perm.cons_inv h2)).cons y).trans List.perm_middle.symm

theorem filter_push {seen : Array Nat} : ∀ {es : List MapEntry}, (es.map (·.born)).Nodup → ∀ e ∈ es, seen.contains e.born = false →
    ((es.filter (fun x => !seen.contains x.born)).Perm (e :: es.filter (fun x => !(seen.push e.born).contains x.born)))
  | [], _, e, he, _ => by simp at he
  | x :: es, hn, e, he, hs => by
    simp only [List.map_cons, List.nodup_cons] at hn
    by_cases hx : x = e
    · subst hx
      have hrest : es.filter (fun y => !(seen.push x.born).contains y.born) = es.filter (fun y => !seen.contains y.born) := by
        apply List.filter_congr
        intro y hy
        have : y.born ≠ x.born := fun h => hn.1 (h ▸ List.mem_map_of_mem (f := (·.born)) hy)
        simp [this]
      rw [List.filter_cons, if_pos (by simpa using hs), List.filter_cons, if_neg (by simp), hrest]
    · have he' : e ∈ es := by
        rcases List.mem_cons.1 he with h | h
        · exact absurd h.symm hx
        · exact h
      have hb : x.born ≠ e.born := fun h => hn.1 (h ▸ List.mem_map_of_mem (f := (·.born)) he')
      have ih := filter_push hn.2 e he' hs
      have hc : (seen.push e.born).contains x.born = seen.contains x.born := by
        simp [hb]
      rw [List.filter_cons, List.filter_cons, hc]
      split
      · exact (ih.cons _).trans (List.Perm.swap _ _ _)
      · exact ih

/-- A step, and what it has found. -/
theorem NxEn_of {w : World} {it m : Nat} {ek : κ → Value} {kv : List (κ × Value)} {left : List κ} {d : TypeDesc} (ho : KeyOk d ek) (h : ItR w it m ek kv left) {K : Value → Value → Pr} {Kf : Pr}
    (hk : ∀ k v left' w', aget k kv = some v → left.Perm (k :: left') → ItR w' it m ek kv left' → Keeps [it] w w' → w'.heap.size = w.heap.size → K (ek k) v w')
    (hend : left = [] → ∀ w', w' = w ∨ w' = w.drew → Kf w') : NxM ⟨it, 0, none⟩ (fun _ _ => EnM ⟨it, 0, none⟩ K) Kf w := by
  have hne := h.ne
  obtain ⟨es, c, seen, h1, h2, h3⟩ := h
  have hmem : ∀ k, k ∈ left ↔ ∃ e ∈ es.toList, seen.contains e.born = false ∧ e.key = ek k := by
    intro k
    have hinj : ∀ a b, ek a = ek b → a = b := fun a b hab => by
      have := ho a b
      rw [hab, ho b b] at this
      simpa using this
    constructor
    · intro hk
      have : ek k ∈ left.map ek := List.mem_map_of_mem hk
      rw [← h3.left, List.mem_map] at this
      obtain ⟨e, he, hke⟩ := this
      rw [List.mem_filter] at he
      exact ⟨e, he.1, by simpa using he.2, hke⟩
    · rintro ⟨e, he, hs, hke⟩
      have : ek k ∈ (es.toList.filter (fun e => !seen.contains e.born)).map (·.key) := List.mem_map.2 ⟨e, List.mem_filter.2 ⟨he, by rw [hs]; rfl⟩, hke⟩
      rw [h3.left, List.mem_map] at this
      obtain ⟨k', hk', he'⟩ := this
      rw [← hinj _ _ he']
      exact hk'
  refine ⟨rfl, some m, c, seen, c, h1, es.toList, c, by simpa using h2, ?_, ?_⟩
  · cases hes : es.toList with
    | nil => exact .inr (.inl rfl)
    | cons e r => exact .inr (.inr ⟨e, by simp, h3.mp.lt e (by rw [hes]; simp)⟩)
  · intro w1 hw1
    have hh1 : w1.heap = w.heap := by rcases hw1 with rfl | rfl <;> rfl
    have hk1 : Keeps [it] w w1 := by rcases hw1 with rfl | rfl; exact Keeps.refl _ _; exact (Keeps.refl _ _).drew
    refine ⟨fun e he hs => ?_, fun hall => ?_⟩
    · have hit : it < w1.heap.size := by rw [hh1]; exact hp_lt h1
      have hI := hp_setObjW_same (o := .mapIter (some m) c (seen.push e.born) c) hit
      have hM : (setObjW w1 it (.mapIter (some m) c (seen.push e.born) c)).heap[m]? = some (.map es c) := by
        rw [hp_setObjW_ne (Ne.symm hne), hh1]; exact h2
      obtain ⟨k, hke, hget⟩ := es_get ho h3.mp.ents h3.mp.nd e he
      have hperm := filter_push h3.mp.born e he hs
      have hinj : ∀ a b, ek a = ek b → a = b := fun a b hab => by
        have := ho a b
        rw [hab, ho b b] at this
        simpa using this
      -- the keys that are left behind it
      have hl' : ∃ left' : List κ, ((es.toList.filter (fun x => !(seen.push e.born).contains x.born)).map (·.key)) = left'.map ek := by
        have : ∀ l : List MapEntry, (∀ x ∈ l, ∃ k, x.key = ek k) → ∃ l' : List κ, l.map (·.key) = l'.map ek := by
          intro l
          induction l with
          | nil => intro _; exact ⟨[], rfl⟩
          | cons x l ih =>
            intro hx
            obtain ⟨l', h'⟩ := ih (fun y hy => hx y (List.mem_cons_of_mem _ hy))
            obtain ⟨k, hk⟩ := hx x List.mem_cons_self
            exact ⟨k :: l', by simp [hk, h']⟩
        refine this _ fun x hx => ?_
        obtain ⟨k, h', _⟩ := es_get ho h3.mp.ents h3.mp.nd x (List.mem_filter.1 hx).1
        exact ⟨k, h'⟩
      obtain ⟨left', hl'⟩ := hl'
      have hp2 : left.Perm (k :: left') := by
        have := hperm.map (·.key)
        rw [h3.left, List.map_cons, hl', hke, ← List.map_cons] at this
        exact perm_of_map hinj this
      refine ⟨rfl, m, c, seen.push e.born, es.toList, c, e.born, e, hI, by simpa using hM, by simp, ?_, ?_⟩
      · rw [List.find?_eq_some_iff_getElem]
        obtain ⟨i, hi, hie⟩ := List.mem_iff_getElem.1 he
        refine ⟨by simp, i, hi, hie, fun j hj => ?_⟩
        have hne := (List.pairwise_iff_getElem.1 h3.mp.born) j i (by simpa using (by omega : j < es.toList.length)) (by simpa using hi) hj
        simp only [List.getElem_map, hie] at hne
        simpa using hne
      · rw [hke]
        exact hk k e.val left' _ hget hp2 ⟨es, c, _, hI, hM, h3.mp, hl'⟩ (hk1.setObjW (.inl (by simp)) _) (by rw [size_setObjW, hh1])
    · refine hend ?_ w1 hw1
      cases hl : left with
      | nil => rfl
      | cons k r =>
        obtain ⟨e, he, hs, _⟩ := (hmem k).1 (by rw [hl]; simp)
        have := hall e he (h3.mp.lt e he)
        rw [hs] at this
        cases this

/-- An entry that has been seen is taken out. -/
theorem MDel_it {w : World} {it m : Nat} {ek : κ → Value} {kv : List (κ × Value)} {left : List κ} {d : TypeDesc} (ho : KeyOk d ek) (h : ItR w it m ek kv left) (k : κ) (hn : k ∉ left) {K : Pr}
    (hk : ∀ w', ItR w' it m ek (adel k kv) left → Keeps [m] w w' → w'.heap.size = w.heap.size → K w') : MDel d (some m) (ek k) K w := by
  have hne := h.ne
  obtain ⟨es, c, seen, h1, h2, h3⟩ := h
  have hinj : ∀ a b, ek a = ek b → a = b := fun a b hab => by
    have := ho a b
    rw [hab, ho b b] at this
    simpa using this
  refine ⟨es, c, afind k kv 0, h2, findNow_kv ho k 0 h3.mp.ents, ?_⟩
  cases hf : afind k kv 0 with
  | none =>
    refine hk _ ⟨es, c, seen, (hp_setObjW_ne hne).trans h1, hp_setObjW_same (hp_lt h2), ?_, h3.left⟩ ((Keeps.refl _ _).setObjW (.inl (by simp)) _) (size_setObjW _ _ _)
    rw [(afind_none hf).2.2]; exact h3.mp
  | some p =>
    obtain ⟨i, v0⟩ := p
    have hsub : List.Sublist (es.eraseIdxIfInBounds i).toList es.toList := by
      rw [Array.toList_eraseIdxIfInBounds]; exact List.eraseIdx_sublist _ _
    refine hk _ ⟨_, c, seen, (hp_setObjW_ne hne).trans h1, hp_setObjW_same (hp_lt h2), ⟨?_, adel_nodup h3.mp.nd, (List.Sublist.map _ hsub).nodup h3.mp.born, fun e he => h3.mp.lt e (hsub.subset he)⟩, ?_⟩ ((Keeps.refl _ _).setObjW (.inl (by simp)) _) (size_setObjW _ _ _)
    · rw [afind_adel hf, Nat.sub_zero, Array.toList_eraseIdxIfInBounds, map_eraseIdx, map_eraseIdx, h3.mp.ents]
    · rw [← h3.left, Array.toList_eraseIdxIfInBounds]
      -- the entry has been seen
      obtain ⟨_, hi⟩ := afind_at hf
      rw [Nat.sub_zero] at hi
      have hseen : ∀ e, es.toList[i]? = some e → seen.contains e.born = true := by
        intro e he
        have hj := congrArg (·[i]?) h3.mp.ents
        simp only [List.getElem?_map, he, hi, Option.map_some, Option.some.injEq, Prod.mk.injEq] at hj
        cases hs : seen.contains e.born with
        | true => rfl
        | false =>
          exfalso
          have : ek k ∈ (es.toList.filter (fun e => !seen.contains e.born)).map (·.key) := List.mem_map.2 ⟨e, List.mem_filter.2 ⟨List.mem_of_getElem? he, by rw [hs]; rfl⟩, hj.1⟩
          rw [h3.left, List.mem_map] at this
          obtain ⟨k', hk', he'⟩ := this
          exact hn (hinj _ _ he' ▸ hk')
      congr 1
      rw [List.eraseIdx_eq_take_drop_succ, List.filter_append]
      conv => rhs; rw [← List.take_append_drop i es.toList, List.filter_append]
      congr 1
      cases he : es.toList[i]? with
      | none =>
        rw [List.getElem?_eq_none_iff] at he
        rw [List.drop_of_length_le (by omega), List.drop_of_length_le (by omega)]
      | some e =>
        have hlt := (List.getElem?_eq_some_iff.1 he).1
        rw [List.drop_eq_getElem_cons hlt, List.filter_cons, if_neg]
        have := hseen e he
        rw [(List.getElem?_eq_some_iff.1 he).2, this]
        simp
end

/-! ### arrays -/
theorem LkN_some {κ : Type} [DecidableEq κ] {w : World} {m : Nat} {ek : κ → Value} {kv : List (κ × Value)} {d : TypeDesc} (ho : KeyOk d ek) (h : MpR w m ek kv) {k : κ} {z : Value} {x : List Value} {K : List Value → Bool → Pr} (hg : aget k kv = some (.agg x.toArray)) (hk : K x true w) : LkN z d (some m) (ek k) K w :=
  Lk_of ho h k (by rw [hg]; exact ⟨x, rfl, hk⟩)
theorem LkN_none {κ : Type} [DecidableEq κ] {w : World} {m : Nat} {ek : κ → Value} {kv : List (κ × Value)} {d : TypeDesc} (ho : KeyOk d ek) (h : MpR w m ek kv) {k : κ} {z : Value} {x : List Value} {K : List Value → Bool → Pr} (hg : aget k kv = none) (hz : z = .agg x.toArray) (hk : K x false w) : LkN z d (some m) (ek k) K w :=
  Lk_of ho h k (by rw [hg]; exact ⟨x, hz, hk⟩)
theorem Ty_of {k : Kd} {v : Value} (x : k.T) (h : v = k.enc x) {K : k.T → Pr} {w : World} (hk : K x w) : Ty k v K w := by
  subst h
  simpa [Ty] using hk
theorem TyN_of {l : List Value} {K : List Value → Pr} {w : World} (hk : K l w) : TyN (.agg l.toArray) K w := hk

/-- A thing of many cells, read out of a slice. -/
theorem SlC.ldn {α : Type} {enc : α → List Value} {size : Nat} (he : ∀ x, (enc x).length = size) {w : World} {s : Sl} {l : List α} (h : SlC w s size (l.flatMap enc)) (i : Nat) {x : α} (hx : l[i]? = some x) (h0 : 0 < size) {K : List Value → Pr} (k : K (enc x) w) :
    Ix s (i : Int) size (fun a => LdN size a K) w := by
  have hl := h.slen he h0
  have hi := (List.getElem?_eq_some_iff.1 hx).1
  obtain ⟨b, o, hp, _⟩ := h.base (by omega)
  rw [Ix_base hp (by omega) (by omega), Int.toNat_natCast]
  refine ⟨enc x, he x, fun j v hj => ?_, k⟩
  rw [add_of, cell_cellO, h.item he hp hx j (by have := (List.getElem?_eq_some_iff.1 hj).1; rw [he] at this; exact this)]
  exact hj
theorem SlC.stn {α : Type} {enc : α → List Value} {size : Nat} (he : ∀ x, (enc x).length = size) {w : World} {s : Sl} {l : List α} (h : SlC w s size (l.flatMap enc)) (i : Nat) (hi : i < l.length) (h0 : 0 < size) (y : α) (hv : ∀ v ∈ enc y, v.oneCell' = true) {K : Pr}
    (k : ∀ w', SlC w' s size ((l.set i y).flatMap enc) → Keeps (blk s) w w' → w'.heap.size = w.heap.size → K w') : Ix s (i : Int) size (fun a => StN size a (enc y) K) w := by
  have hl := h.slen he h0
  obtain ⟨b, o, hp, hb⟩ := h.base (by omega)
  rw [Ix_base hp (by omega) (by omega), Int.toNat_natCast]
  refine ⟨he y, ?_⟩
  obtain ⟨b', o', all, t, fr, hp', hbl, h1, h2, h3⟩ := h.row.resolve_left (by have := h.cap; omega)
  rw [hp, Option.some.injEq, Addr.mk.injEq] at hp'
  obtain ⟨rfl, rfl, _⟩ := hp'
  have hm : (i + 1) * size ≤ l.length * size := Nat.mul_le_mul_right _ hi
  have hc : s.len * size ≤ s.cap * size := Nat.mul_le_mul_right _ h.cap
  rw [Nat.succ_mul] at hm
  rw [← hl] at hm
  refine StR_of hbl (by rw [he]; omega) hv (fun j _ hj => by rw [Nat.add_assoc]; exact h3 _ (by rw [he] at hj; omega)) (k _ ⟨?_, h.cap, .inr ⟨b, o, _, t, fr, hp, hp_setObjW_same (hp_lt hbl), by rw [setA_size]; exact h1, fun j hj => ?_, h3⟩⟩ (by rw [hb]; exact (Keeps.refl _ _).setObjW (.inl (by simp)) _) (size_setObjW _ _ _))
  · rw [flat_length he, List.length_set, hl]
  · rw [← flat_set he l i y hi, setL_length (by rw [flat_length he, he]; rw [← hl]; exact hm)] at hj
    rw [← flat_set he l i y hi, setA_get _ _ _ _ (by rw [he]; omega), setL_get (by rw [flat_length he, he]; rw [← hl]; exact hm)]
    simp only [he]
    by_cases hc2 : i * size ≤ j ∧ j < i * size + size
    · rw [if_pos (by omega), if_pos hc2]
      congr 1
      omega
    · rw [if_neg (by omega), if_neg hc2, h2 j hj]

/-- Bytes held against each other. -/
theorem eqL_bytes {P : Program} {t : TypeId} (ht : P.underlying t = some (.int .u8)) : ∀ (a b : List UInt8), a.length = b.length → eqL P t (cB a) (cB b) = some (decide (a = b))
  | [], b, h => by
    cases b with
    | nil => rfl
    | cons y b => simp at h
  | x :: a, b, h => by
    cases b with
    | nil => simp at h
    | cons y b =>
      have ih := eqL_bytes ht a b (by simpa using h)
      simp only [cB, List.map_cons, eqL] at ih ⊢
      simp only [eq1, ht, if_true, ih]
      congr 1
      by_cases hxy : x = y
      · subst hxy; simp
      · have : (x.toNat : Int) ≠ y.toNat := fun he => hxy (UInt8.toNat_inj.1 (by omega))
        simp [hxy, this]

theorem EqA_bytes {P : Program} {t : TypeId} (ht : P.underlying t = some (.int .u8)) {n : Nat} {a b : List UInt8} (ha : a.length = n) (hb : b.length = n) {K : Bool → Pr} {w : World} (k : K (decide (a = b)) w) : EqA P t n (cB a) (cB b) K w :=
  ⟨by rw [cB_length, ha], _, eqL_bytes ht a b (by omega), k⟩

/-! ### a variable of many cells -/
theorem setA_all {all : Array Value} {vs : List Value} (h : vs.length = all.size) : setA all 0 vs = vs.toArray := by
  apply Array.ext_getElem?
  intro j
  rw [setA_get _ _ _ _ (by omega)]
  by_cases hj : j < vs.length
  · rw [if_pos (by omega)]; simp
  · rw [if_neg (by omega), Array.getElem?_eq_none (by omega), Array.getElem?_eq_none (by simp; omega)]
theorem StN_row {w : World} {b n : Nat} {cs : Array Value} {t : TypeId} {vs : List Value} (h : w.heap[b]? = some (.cells cs t (0, 0))) (hc : cs.size = n) (hl : vs.length = n) (h1 : ∀ v ∈ vs, v.oneCell' = true) {K : Pr}
    (k : ∀ w', w'.heap[b]? = some (.cells vs.toArray t (0, 0)) → Keeps [b] w w' → w'.heap.size = w.heap.size → K w') : StN n ⟨b, 0, none⟩ vs K w := by
  refine ⟨hl, StR_of h (by omega) h1 (fun j _ _ => by simp) (k _ ?_ ((Keeps.refl _ _).setObjW (.inl (by simp)) _) (size_setObjW _ _ _))⟩
  rw [setA_all (by omega)]
  exact hp_setObjW_same (hp_lt h)
theorem NewStN_of {w : World} {n : Nat} {cs : Array Value} {t : TypeId} {vs : List Value} (hc : cs.size = n) (hl : vs.length = n) (h1 : ∀ v ∈ vs, v.oneCell' = true) {K : Addr → Pr}
    (k : ∀ w', w'.heap[w.heap.size]? = some (.cells vs.toArray t (0, 0)) → Keeps [] w w' → w'.heap.size = w.heap.size + 1 → K ⟨w.heap.size, 0, none⟩ w') : New cs t (fun a => StN n a vs (K a)) w := by
  refine StN_row (hp_alloc_new w _) hc hl h1 ?_
  intro w' h2 h3 h4
  refine k w' h2 ((((Keeps.refl [] w).alloc _)).trans h3 (by simp)) (by rw [h4, World.size_alloc])
theorem LdN_row {w : World} {b n : Nat} {t : TypeId} {fr : Nat × Nat} {vs : List Value} (h : w.heap[b]? = some (.cells vs.toArray t fr)) (hl : vs.length = n) {K : List Value → Pr} (k : K vs w) : LdN n ⟨b, 0, none⟩ K w :=
  ⟨vs, hl, fun j v hj => by rw [add_of, cell_of h, Nat.zero_add]; simpa using hj, k⟩
/-- A slice of the whole of it. -/
theorem SlC_row {w : World} {b : Nat} {t : TypeId} {vs : List Value} (h : w.heap[b]? = some (.cells vs.toArray t (0, 0))) : SlC w ⟨some ⟨b, 0, none⟩, vs.length, vs.length⟩ 1 vs :=
  ⟨by simp, Nat.le_refl _, .inr ⟨b, 0, _, t, (0, 0), rfl, h, by simp, fun j hj => by simp, fun j _ => by simp⟩⟩

/-- 'make' of things of many cells, all zero. -/
theorem madeCells_flat {α : Type} {enc : α → List Value} {size : Nat} (he : ∀ x, (enc x).length = size) (h0 : 0 < size) (x : α) (n : Nat) : (madeCells (enc x).toArray (n * size)).toList.take (n * size) = (List.replicate n x).flatMap enc := by
  have hl : (madeCells (enc x).toArray (n * size)).toList.length = n * size := by rw [Array.length_toList, size_madeCells]
  rw [List.take_of_length_le (by omega)]
  apply List.ext_getElem?
  intro j
  by_cases hj : j < n * size
  · have hq : j / size < n := Nat.div_lt_of_lt_mul (by rw [Nat.mul_comm]; exact hj)
    have hm : j % size < size := Nat.mod_lt _ h0
    have hdj : j / size * size + j % size = j := by rw [Nat.mul_comm]; exact Nat.div_add_mod j size
    have h1 := flat_get he (List.replicate n x) (j / size) (j % size) hm
    rw [hdj] at h1
    rw [h1, List.getElem?_replicate, if_pos hq]
    simp only [madeCells, Array.toList_map, Array.toList_range, List.getElem?_map, List.getElem?_range hj, Option.map_some, Option.bind_some, List.size_toArray, he]
    have hm' : j % size < (enc x).length := by rw [he]; exact hm
    rw [List.getElem?_eq_getElem hm', getElem!_pos _ _ (by simpa using hm')]
    simp
  · rw [List.getElem?_eq_none (by omega), List.getElem?_eq_none (by rw [flat_length he, List.length_replicate]; omega)]

/-! ### integers in a slice -/
def cI (l : List Int) : List Value := l.map (Value.int .i64)
theorem cI_len (l : List Int) : (cI l).length = l.length := by simp [cI]
theorem cI_one (l : List Int) : ∀ v ∈ cI l, v.oneCell' = true := by simp [cI, Value.oneCell']
theorem cI_slen {w : World} {s : Sl} {l : List Int} (h : SlC w s 1 (cI l)) : s.len = l.length := by have := h.len; rw [cI_len] at this; omega
theorem Ix_ci {w : World} {s : Sl} {l : List Int} (h : SlC w s 1 (cI l)) {j : Nat} {x : Int} (hj : l[j]? = some x) {K : Int → Pr} (k : K x w) : Ix s (j : Int) 1 (fun a => LdI .i64 a K) w := by
  have hlt := (List.getElem?_eq_some_iff.1 hj).1
  have hl := cI_slen h
  obtain ⟨b, o, hp, _⟩ := h.base (by omega)
  rw [Ix_base hp (by omega) (by omega), Int.toNat_natCast, Nat.mul_one, LdI_c, h.read hp (by rw [cI_len]; exact hlt), cI, List.getElem?_map, hj]
  simp only [Option.map_some, sx]
  exact k
theorem Ix_si {w : World} {s : Sl} {l : List Int} (h : SlC w s 1 (cI l)) {j : Nat} (hj : j < l.length) (x : Int) {K : Pr} (k : ∀ w', SlC w' s 1 (cI (l.set j x)) → Keeps (blk s) w w' → K w') : Ix s (j : Int) 1 (fun a => St a (.int .i64 x) K) w := by
  have hl := cI_slen h
  obtain ⟨b, o, hp, hb⟩ := h.base (by omega)
  rw [Ix_base hp (by omega) (by omega), Int.toNat_natCast, Nat.mul_one]
  refine h.write hp (by rw [cI_len]; exact hj) rfl ?_
  intro w' h1 h2
  refine k w' ?_ (by rw [hb]; exact h2)
  rw [cI, List.map_set]
  exact h1

/-! ### texts in a slice -/
def cT (l : List ByteArray) : List Value := l.map Value.string
theorem cT_len (l : List ByteArray) : (cT l).length = l.length := by simp [cT]
theorem cT_one (l : List ByteArray) : ∀ v ∈ cT l, v.oneCell' = true := by simp [cT, Value.oneCell']
theorem cT_slen {w : World} {s : Sl} {l : List ByteArray} (h : SlC w s 1 (cT l)) : s.len = l.length := by have := h.len; rw [cT_len] at this; omega
theorem Ix_ct {w : World} {s : Sl} {l : List ByteArray} (h : SlC w s 1 (cT l)) {j : Nat} {x : ByteArray} (hj : l[j]? = some x) {K : ByteArray → Pr} (k : K x w) : Ix s (j : Int) 1 (fun a => LdS a K) w := by
  have hlt := (List.getElem?_eq_some_iff.1 hj).1
  have hl := cT_slen h
  obtain ⟨b, o, hp, _⟩ := h.base (by omega)
  rw [Ix_base hp (by omega) (by omega), Int.toNat_natCast, Nat.mul_one, LdS_c, h.read hp (by rw [cT_len]; exact hlt), cT, List.getElem?_map, hj]
  simp only [Option.map_some, sx]
  exact k
theorem Ix_st {w : World} {s : Sl} {l : List ByteArray} (h : SlC w s 1 (cT l)) {j : Nat} (hj : j < l.length) (x : ByteArray) {K : Pr} (k : ∀ w', SlC w' s 1 (cT (l.set j x)) → Keeps (blk s) w w' → w'.heap.size = w.heap.size → K w') : Ix s (j : Int) 1 (fun a => St a (.string x) K) w := by
  have hl := cT_slen h
  obtain ⟨b, o, hp, hb⟩ := h.base (by omega)
  rw [Ix_base hp (by omega) (by omega), Int.toNat_natCast, Nat.mul_one]
  obtain ⟨b', o', all, t, fr, hp', hbl, h1, h2, h3⟩ := h.row.resolve_left (by have := h.cap; omega)
  rw [hp, Option.some.injEq, Addr.mk.injEq] at hp'
  obtain ⟨rfl, rfl, _⟩ := hp'
  have hcap := h.cap
  refine St_of hbl rfl (by omega) (h3 j (by omega)) (k _ ⟨by rw [cT_len, List.length_set]; omega, h.cap, .inr ⟨b, o, _, t, fr, hp, hp_setObjW_same (hp_lt hbl), by simpa using h1, fun i hi => ?_, h3⟩⟩ (by rw [hb]; exact (Keeps.refl _ _).setObjW (.inl (by simp)) _) (size_setObjW _ _ _))
  rw [cT, List.map_set]
  rw [cT_len, List.length_set] at hi
  by_cases hij : j = i
  · subst hij
    rw [Array.getElem?_setIfInBounds_self, if_pos (by omega), List.getElem?_set_self (by simpa using hj)]
  · rw [Array.getElem?_setIfInBounds_ne (by omega), h2 i (by rw [cT_len]; exact hi), List.getElem?_set_ne hij]
    rfl

/-! ### bytes in a slice -/
theorem cB_slen {w : World} {s : Sl} {l : List UInt8} (h : SlC w s 1 (cB l)) : s.len = l.length := by have := h.len; rw [cB_length] at this; omega
theorem Ix_cb {w : World} {s : Sl} {l : List UInt8} (h : SlC w s 1 (cB l)) {j : Nat} {x : UInt8} (hj : l[j]? = some x) {K : Int → Pr} (k : K (x.toNat : Int) w) : Ix s (j : Int) 1 (fun a => LdI .u8 a K) w := by
  have hlt := (List.getElem?_eq_some_iff.1 hj).1
  have hl := cB_slen h
  obtain ⟨b, o, hp, _⟩ := h.base (by omega)
  rw [Ix_base hp (by omega) (by omega), Int.toNat_natCast, Nat.mul_one, LdI_c, h.read hp (by rw [cB_length]; exact hlt), cB, List.getElem?_map, hj]
  simp only [Option.map_some, sx]
  exact k
theorem Ix_sb {w : World} {s : Sl} {l : List UInt8} (h : SlC w s 1 (cB l)) {j : Nat} (hj : j < l.length) (x : UInt8) {K : Pr} (k : ∀ w', SlC w' s 1 (cB (l.set j x)) → Keeps (blk s) w w' → K w') : Ix s (j : Int) 1 (fun a => St a (.int .u8 (x.toNat : Int)) K) w := by
  have hl := cB_slen h
  obtain ⟨b, o, hp, hb⟩ := h.base (by omega)
  rw [Ix_base hp (by omega) (by omega), Int.toNat_natCast, Nat.mul_one]
  refine h.write hp (by rw [cB_length]; exact hj) rfl ?_
  intro w' h1 h2
  refine k w' ?_ (by rw [hb]; exact h2)
  rw [cB, List.map_set]
  exact h1
theorem keepsP_of {F : Nat → Prop} {m : List Nat} {w w' : World} (h : Keeps m w w') (hm : ∀ x ∈ m, w.heap.size ≤ x) : KeepsP F w w' := h.toP fun x hx => .inr (hm x hx)
/-- Fresh things are owned by nobody who was there. -/
theorem fresh_not {l : List Nat} {H : Nat → Prop} {w : World} (hl : ∀ x ∈ l, w.heap.size ≤ x) (hH : Bl H w) : ∀ x ∈ l, ¬ H x := fun x hx hh => by have := hl x hx; have := hH x hh; omega

end Go.Sx
