/-
  Sets of blocks that are owned; maps as lists of keys and values; 'slices.Clone'.
-/
import Derived.Test.YtmppjgddemlmdaaSxV
set_option linter.unusedSimpArgs false
set_option linter.unusedVariables false
set_option linter.unusedSectionVars false
namespace Go.Sx
open Go

/-! ### sets of blocks -/
/-- Blocks outside a set are kept. -/
structure KeepsP (F : Nat → Prop) (w w' : World) : Prop where
  os : w'.os = w.os
  tape : w'.tape = w.tape
  output : w'.output = w.output
  size : w.heap.size ≤ w'.heap.size
  get : ∀ k, k < w.heap.size → ¬ F k → w'.heap[k]? = w.heap[k]?

theorem Keeps.toP {m : List Nat} {F : Nat → Prop} {w w' : World} (h : Keeps m w w') (hm : ∀ x ∈ m, F x ∨ w.heap.size ≤ x) : KeepsP F w w' :=
  ⟨h.os, h.tape, h.output, h.size, fun k hk hn => h.get k hk (fun hh => by rcases hm k hh with hh | hh; exact hn hh; omega)⟩
theorem KeepsP.toL {F : Nat → Prop} {w w' : World} (h : KeepsP F w w') (hm : ∀ x, F x → w.heap.size ≤ x) : Keeps [] w w' :=
  ⟨h.os, h.tape, h.output, h.size, fun k hk _ => h.get k hk (fun hh => by have := hm k hh; omega)⟩
theorem KeepsP.refl (F : Nat → Prop) (w : World) : KeepsP F w w := ⟨rfl, rfl, rfl, Nat.le_refl _, fun _ _ _ => rfl⟩
theorem KeepsP.trans {F G : Nat → Prop} {a b c : World} (h : KeepsP F a b) (k : KeepsP G b c) (hm : ∀ x, G x → F x ∨ a.heap.size ≤ x) : KeepsP F a c :=
  ⟨k.os.trans h.os, k.tape.trans h.tape, k.output.trans h.output, Nat.le_trans h.size k.size, fun i hi hn => by
    rw [k.get i (Nat.lt_of_lt_of_le hi h.size) (fun hh => by rcases hm i hh with hh | hh; exact hn hh; omega)]
    exact h.get i hi hn⟩
theorem KeepsP.mono {F G : Nat → Prop} {w w' : World} (h : KeepsP F w w') (hm : ∀ x, F x → G x ∨ w.heap.size ≤ x) : KeepsP G w w' :=
  ⟨h.os, h.tape, h.output, h.size, fun k hk hn => h.get k hk (fun hh => by rcases hm k hh with hh | hh; exact hn hh; omega)⟩
theorem KeepsP.at {F : Nat → Prop} {w w' : World} (h : KeepsP F w w') {b : Nat} {o : Obj} (hb : w.heap[b]? = some o) (hn : ¬ F b) : w'.heap[b]? = some o := (h.get b (hp_lt hb) hn).trans hb
theorem KeepsP.lt {F : Nat → Prop} {w w' : World} (h : KeepsP F w w') {b : Nat} (hb : b < w.heap.size) : b < w'.heap.size := Nat.lt_of_lt_of_le hb h.size
/-- For what a predicate on lists of blocks is told. -/
theorem KeepsP.list {F : Nat → Prop} {w w' : World} (h : KeepsP F w w') {l : List Nat} (hl : ∀ x ∈ l, ¬ F x) : ∃ m, Keeps m w w' ∧ ∀ x ∈ l, x ∉ m := by
  refine ⟨(List.range w.heap.size).filter (fun x => !(decide (x ∈ l))), ⟨h.os, h.tape, h.output, h.size, fun k hk hn => ?_⟩, fun x hx => by simp [hx]⟩
  refine h.get k hk (hl k ?_)
  simp at hn
  exact hn hk
theorem SlC.keepsP {w w' : World} {s : Sl} {size : Nat} {cs : List Value} {F : Nat → Prop} (h : SlC w s size cs) (hk : KeepsP F w w') (hd : ∀ x ∈ blk s, ¬ F x) : SlC w' s size cs := by
  obtain ⟨m, h1, h2⟩ := hk.list hd
  exact h.keeps h1 h2
theorem rdc_keepsP {p : Option Addr} {n : Nat} {cs : List Value} {w w' : World} {F : Nat → Prop} (h : RdC p n cs w) (hk : KeepsP F w w') (hd : ∀ a, p = some a → ¬ F a.block) : RdC p n cs w' := by
  cases p with
  | none => exact ⟨h.1, fun j v hj => by obtain ⟨a, ha, _⟩ := h.2 j v hj; cases ha⟩
  | some a =>
    obtain ⟨m, h1, h2⟩ := hk.list (l := [a.block]) (by intro x hx; rw [List.mem_singleton.1 hx]; exact hd a rfl)
    exact rdc_keeps h h1 fun a' ha' => by cases ha'; exact h2 _ (by simp)
theorem rdb_keepsP {s : Sl} {bs : List UInt8} {w w' : World} {F : Nat → Prop} (h : RdB s bs w) (hk : KeepsP F w w') (hd : ∀ x ∈ rblk s, ¬ F x) : RdB s bs w' :=
  rdb_of_rdc (rdc_keepsP (rdb_rdc h) hk fun a ha => hd _ (by simp [rblk, ha]))

/-- What is owned now was owned, or is new. -/
def Fr (F F' : Nat → Prop) (w : World) : Prop := ∀ x, F' x → F x ∨ w.heap.size ≤ x
/-- All that is owned lies there. -/
def Bl (F : Nat → Prop) (w : World) : Prop := ∀ x, F x → x < w.heap.size
def Dj (F G : Nat → Prop) : Prop := ∀ x, F x → ¬ G x
theorem Fr.refl (F : Nat → Prop) (w : World) : Fr F F w := fun _ h => .inl h
theorem Fr.trans {F G H : Nat → Prop} {a b : World} (h : Fr F G a) (k : Fr G H b) (hs : a.heap.size ≤ b.heap.size) : Fr F H a := fun x hx => by
  rcases k x hx with h1 | h1
  · exact h x h1
  · exact .inr (Nat.le_trans hs h1)
theorem Dj.symm {F G : Nat → Prop} (h : Dj F G) : Dj G F := fun x hx hf => h x hf hx
theorem Dj.step {F F' G : Nat → Prop} {w : World} (h : Dj F G) (hf : Fr F F' w) (hg : Bl G w) : Dj F' G := fun x hx hgx => by
  rcases hf x hx with h1 | h1
  · exact h x h1 hgx
  · have := hg x hgx; omega
theorem Bl.keeps {F G : Nat → Prop} {w w' : World} (h : Bl F w) (hk : KeepsP G w w') : Bl F w' := fun x hx => Nat.lt_of_lt_of_le (h x hx) hk.size

/-! ### maps -/
/-- The keys are told apart by the model as they are. -/
def KeyOk {κ : Type} [DecidableEq κ] (d : TypeDesc) (ek : κ → Value) : Prop := ∀ a b, Instr.sameNow d (ek a) (ek b) = some (decide (a = b))
theorem keyOk_int (k : IntKind) : KeyOk (.int k) (Value.int k) := fun a b => by
  simp only [Instr.sameNow, if_true]
  congr 1
theorem keyOk_str : KeyOk .string Value.string := fun a b => by
  simp only [Instr.sameNow]
  congr 1
  rw [Bool.eq_iff_iff, beq_toListBytes, beq_iff_eq, decide_eq_true_iff, ByteArray.toList_eq, ByteArray.toList_eq]
  exact ⟨fun h => ByteArray.ext (Array.toList_inj.1 h), fun h => by rw [h]⟩

structure MpA {κ : Type} (ek : κ → Value) (kv : List (κ × Value)) (es : List MapEntry) (c : Nat) : Prop where
  ents : es.map (fun e => (e.key, e.val)) = kv.map (fun p => (ek p.1, p.2))
  nd : (kv.map Prod.fst).Nodup
  born : (es.map (·.born)).Nodup
  lt : ∀ e ∈ es, e.born < c

def MpR {κ : Type} (w : World) (m : Nat) (ek : κ → Value) (kv : List (κ × Value)) : Prop := ∃ es c, w.heap[m]? = some (.map es c) ∧ MpA ek kv es.toList c

section
variable {κ : Type} [DecidableEq κ]

def aget (k : κ) (l : List (κ × Value)) : Option Value := match l with
  | [] => none
  | p :: r => if k = p.1 then some p.2 else aget k r
def aset (k : κ) (v : Value) : List (κ × Value) → List (κ × Value)
  | [] => [(k, v)]
  | p :: r => if k = p.1 then (k, v) :: r else p :: aset k v r
def adel (k : κ) : List (κ × Value) → List (κ × Value)
  | [] => []
  | p :: r => if k = p.1 then r else p :: adel k r

theorem aget_mem {k : κ} {l : List (κ × Value)} {v : Value} (h : aget k l = some v) : (k, v) ∈ l := by
  induction l with
  | nil => cases h
  | cons p r ih =>
    simp only [aget] at h
    split at h
    · rename_i hk; cases h; subst hk; exact List.mem_cons_self
    · exact List.mem_cons_of_mem _ (ih h)
theorem aget_none {k : κ} {l : List (κ × Value)} : aget k l = none ↔ k ∉ l.map Prod.fst := by
  induction l with
  | nil => simp [aget]
  | cons p r ih =>
    simp only [aget, List.map_cons, List.mem_cons, not_or]
    split
    · rename_i hk; simp [hk]
    · rename_i hk; rw [ih]; simp [hk]
theorem aget_aset (k k' : κ) (v : Value) (l : List (κ × Value)) : aget k' (aset k v l) = if k' = k then some v else aget k' l := by
  induction l with
  | nil => simp [aset, aget]
  | cons p r ih =>
    simp only [aset]
    split
    · rename_i hk; subst hk; simp only [aget]; split <;> rfl
    · rename_i hk
      simp only [aget, ih]
      by_cases h1 : k' = p.1
      · simp [h1, Ne.symm hk]
      · simp [h1]
theorem keys_aset (k : κ) (v : Value) (l : List (κ × Value)) : (aset k v l).map Prod.fst = if k ∈ l.map Prod.fst then l.map Prod.fst else l.map Prod.fst ++ [k] := by
  induction l with
  | nil => simp [aset]
  | cons p r ih =>
    simp only [aset]
    split
    · rename_i hk; simp [hk]
    · rename_i hk
      simp only [List.map_cons, ih, List.mem_cons, hk, false_or]
      split <;> rfl
theorem adel_sub (k : κ) (l : List (κ × Value)) : List.Sublist (adel k l) l := by
  induction l with
  | nil => exact List.Sublist.slnil
  | cons p r ih =>
    simp only [adel]
    split
    · exact List.sublist_cons_self _ _
    · exact ih.cons_cons _
theorem aget_adel (k k' : κ) (l : List (κ × Value)) (hn : (l.map Prod.fst).Nodup) : aget k' (adel k l) = if k' = k then none else aget k' l := by
  induction l with
  | nil => simp [adel, aget]
  | cons p r ih =>
    simp only [List.map_cons, List.nodup_cons] at hn
    simp only [adel]
    split
    · rename_i hk
      simp only [aget]
      by_cases h1 : k' = k
      · rw [if_pos h1]; subst h1; rw [hk]; exact aget_none.2 hn.1
      · rw [if_neg h1, if_neg (by rw [← hk]; exact h1)]
    · rename_i hk
      simp only [aget, ih hn.2]
      by_cases h1 : k' = p.1
      · simp [h1, Ne.symm hk]
      · simp [h1]
theorem aset_nodup {k : κ} {v : Value} {l : List (κ × Value)} (h : (l.map Prod.fst).Nodup) : ((aset k v l).map Prod.fst).Nodup := by
  rw [keys_aset]
  split
  · exact h
  · rename_i hk
    rw [List.nodup_append]
    refine ⟨h, by simp, fun a ha b hb => ?_⟩
    simp at hb
    subst hb
    intro he
    subst he
    exact hk ha
theorem adel_nodup {k : κ} {l : List (κ × Value)} (h : (l.map Prod.fst).Nodup) : ((adel k l).map Prod.fst).Nodup := (List.Sublist.map _ (adel_sub k l)).nodup h

/-- Where a key stands. -/
def afind (k : κ) : List (κ × Value) → Nat → Option (Nat × Value)
  | [], _ => none
  | p :: r, n => if k = p.1 then some (n, p.2) else afind k r (n + 1)

theorem findNow_kv {d : TypeDesc} {ek : κ → Value} (ho : KeyOk d ek) (k : κ) : ∀ {es : List MapEntry} {kv : List (κ × Value)} (n : Nat), es.map (fun e => (e.key, e.val)) = kv.map (fun p => (ek p.1, p.2)) →
    Instr.findNow d (ek k) es n = some (afind k kv n)
  | [], kv, n, h => by cases kv with
    | nil => rfl
    | cons p r => simp at h
  | e :: es, kv, n, h => by
    cases kv with
    | nil => simp at h
    | cons p r =>
      simp only [List.map_cons, List.cons.injEq, Prod.mk.injEq] at h
      simp only [Instr.findNow, h.1.1, ho k p.1, afind]
      by_cases hk : k = p.1
      · rw [decide_eq_true hk, if_pos hk, h.1.2]
      · rw [decide_eq_false hk, if_neg hk]
        exact findNow_kv ho k (n + 1) h.2

theorem afind_get (k : κ) : ∀ (l : List (κ × Value)) (n : Nat), (afind k l n).map (·.2) = aget k l
  | [], n => rfl
  | p :: r, n => by
    simp only [afind, aget]
    split
    · rfl
    · exact afind_get k r (n + 1)
theorem afind_at {k : κ} : ∀ {l : List (κ × Value)} {n i : Nat} {v : Value}, afind k l n = some (i, v) → n ≤ i ∧ l[i - n]? = some (k, v)
  | [], n, i, v, h => by cases h
  | p :: r, n, i, v, h => by
    simp only [afind] at h
    split at h
    · rename_i hk
      simp only [Option.some.injEq, Prod.mk.injEq] at h
      obtain ⟨rfl, rfl⟩ := h
      exact ⟨Nat.le_refl _, by subst hk; simp⟩
    · obtain ⟨h1, h2⟩ := afind_at h
      refine ⟨by omega, ?_⟩
      rw [show i - n = (i - (n + 1)) + 1 from by omega, List.getElem?_cons_succ]
      exact h2

theorem afind_aset {k : κ} {v' : Value} : ∀ {l : List (κ × Value)} {n i : Nat} {v : Value}, afind k l n = some (i, v) → aset k v' l = l.set (i - n) (k, v')
  | [], n, i, v, h => by cases h
  | p :: r, n, i, v, h => by
    simp only [afind] at h
    simp only [aset]
    split at h
    · rename_i hk
      simp only [Option.some.injEq, Prod.mk.injEq] at h
      obtain ⟨rfl, rfl⟩ := h
      rw [if_pos hk]
      simp
    · rename_i hk
      obtain ⟨h1, _⟩ := afind_at h
      rw [if_neg hk, afind_aset h, show i - n = (i - (n + 1)) + 1 from by omega, List.set_cons_succ]
theorem afind_adel {k : κ} : ∀ {l : List (κ × Value)} {n i : Nat} {v : Value}, afind k l n = some (i, v) → adel k l = l.eraseIdx (i - n)
  | [], n, i, v, h => by cases h
  | p :: r, n, i, v, h => by
    simp only [afind] at h
    simp only [adel]
    split at h
    · rename_i hk
      simp only [Option.some.injEq, Prod.mk.injEq] at h
      obtain ⟨rfl, rfl⟩ := h
      rw [if_pos hk]
      simp
    · rename_i hk
      obtain ⟨h1, _⟩ := afind_at h
      rw [if_neg hk, afind_adel h, show i - n = (i - (n + 1)) + 1 from by omega, List.eraseIdx_cons_succ]
theorem afind_none {k : κ} : ∀ {l : List (κ × Value)} {n : Nat}, afind k l n = none → k ∉ l.map Prod.fst ∧ (∀ v, aset k v l = l ++ [(k, v)]) ∧ adel k l = l
  | [], n, h => ⟨by simp, fun v => rfl, rfl⟩
  | p :: r, n, h => by
    simp only [afind] at h
    split at h
    · cases h
    · rename_i hk
      obtain ⟨h1, h2, h3⟩ := afind_none h
      refine ⟨by simp only [List.map_cons, List.mem_cons, not_or]; exact ⟨hk, h1⟩, fun v => ?_, ?_⟩
      · simp only [aset, if_neg hk, h2]; rfl
      · simp only [adel, if_neg hk, h3]

theorem Lk_of {w : World} {m : Nat} {ek : κ → Value} {kv : List (κ × Value)} {d : TypeDesc} (ho : KeyOk d ek) (h : MpR w m ek kv) (k : κ) {K : Option Value → Pr} (hk : K (aget k kv) w) : Lk d (some m) (ek k) K w := by
  obtain ⟨es, c, hb, ha⟩ := h
  refine ⟨es.toList, afind k kv 0, ⟨c, by simpa using hb⟩, findNow_kv ho k 0 ha.ents, ?_⟩
  rw [← afind_get k kv 0] at hk
  cases hf : afind k kv 0 with
  | none => rw [hf] at hk; exact hk
  | some p => rw [hf] at hk; exact hk

theorem LkK_some {w : World} {m : Nat} {ek : κ → Value} {kv : List (κ × Value)} {d : TypeDesc} (ho : KeyOk d ek) (h : MpR w m ek kv) {k : κ} {kd : Kd} {z x : kd.T} {K : kd.T → Bool → Pr} (hg : aget k kv = some (kd.enc x)) (hk : K x true w) : LkK kd z d (some m) (ek k) K w :=
  Lk_of ho h k (by rw [hg]; exact ⟨x, rfl, hk⟩)
theorem LkK_none {w : World} {m : Nat} {ek : κ → Value} {kv : List (κ × Value)} {d : TypeDesc} (ho : KeyOk d ek) (h : MpR w m ek kv) {k : κ} {kd : Kd} {z : kd.T} {K : kd.T → Bool → Pr} (hg : aget k kv = none) (hk : K z false w) : LkK kd z d (some m) (ek k) K w :=
  Lk_of ho h k (by rw [hg]; exact hk)

theorem MpR.keepsP {w w' : World} {m : Nat} {ek : κ → Value} {kv : List (κ × Value)} {F : Nat → Prop} (h : MpR w m ek kv) (hk : KeepsP F w w') (hn : ¬ F m) : MpR w' m ek kv := by
  obtain ⟨es, c, hb, ha⟩ := h
  exact ⟨es, c, hk.at hb hn, ha⟩
theorem MpR.keepsL {w w' : World} {m : Nat} {ek : κ → Value} {kv : List (κ × Value)} {l : List Nat} (h : MpR w m ek kv) (hk : Keeps l w w') (hn : m ∉ l) : MpR w' m ek kv := by
  obtain ⟨es, c, hb, ha⟩ := h
  exact ⟨es, c, hk.at hb hn, ha⟩
theorem MpR.lt {w : World} {m : Nat} {ek : κ → Value} {kv : List (κ × Value)} (h : MpR w m ek kv) : m < w.heap.size := by
  obtain ⟨es, c, hb, _⟩ := h
  exact hp_lt hb
theorem MpR.new (w : World) (ek : κ → Value) : MpR (w.alloc (.map #[] 0)) w.heap.size ek ([] : List (κ × Value)) := ⟨#[], 0, hp_alloc_new w _, by simp, by simp, by simp, by simp⟩

theorem set_kv {es : Array MapEntry} {ek : κ → Value} {kv : List (κ × Value)} {c : Nat} (ha : MpA ek kv es.toList c) {k : κ} {i : Nat} {v v' : Value} (hf : afind k kv 0 = some (i, v)) {e' : MapEntry → MapEntry} (h1 : ∀ e, (e' e).key = ek k) (h2 : ∀ e, (e' e).val = v') (h3 : ∀ e, (e' e).born = e.born) :
    MpA ek (aset k v' kv) (es.modify i e').toList c := by
  obtain ⟨_, hi⟩ := afind_at hf
  rw [Nat.sub_zero] at hi
  have hset : (es.modify i e').toList.map (·.born) = es.toList.map (·.born) := by
    apply List.ext_getElem?
    intro j
    simp only [Array.toList_modify, List.getElem?_map, List.getElem?_modify]
    split
    · cases es.toList[j]? <;> simp [h3]
    · cases es.toList[j]? <;> simp
  refine ⟨?_, aset_nodup ha.nd, by rw [hset]; exact ha.born, fun e he => ?_⟩
  · rw [afind_aset hf, Nat.sub_zero]
    apply List.ext_getElem?
    intro j
    have hj := congrArg (·[j]?) ha.ents
    simp only [List.getElem?_map] at hj
    simp only [Array.toList_modify, List.getElem?_map, List.getElem?_modify, List.getElem?_set]
    by_cases hij : i = j
    · subst hij
      have hlt := (List.getElem?_eq_some_iff.1 hi).1
      simp only [if_true]
      rw [hi] at hj
      cases he : es.toList[i]? with
      | none => rw [he] at hj; simp at hj
      | some e => simp [h1, h2, hlt]
    · rw [if_neg hij]
      simp only [if_neg hij]
      cases he : es.toList[j]? with
      | none => rw [he] at hj; simpa using hj
      | some e => rw [he] at hj; simpa using hj
  · have hm : e.born ∈ (es.modify i e').toList.map (·.born) := List.mem_map_of_mem he
    rw [hset] at hm
    obtain ⟨e0, he0, hb⟩ := List.mem_map.1 hm
    rw [← hb]
    exact ha.lt e0 he0

theorem push_kv {es : Array MapEntry} {ek : κ → Value} {kv : List (κ × Value)} {c : Nat} (ha : MpA ek kv es.toList c) {k : κ} {v : Value} (hf : afind k kv 0 = none) : MpA ek (aset k v kv) (es.push { key := ek k, val := v, born := c }).toList (c + 1) := by
  obtain ⟨h1, h2, _⟩ := afind_none hf
  refine ⟨?_, aset_nodup ha.nd, ?_, fun e he => ?_⟩
  · rw [h2]
    simp [ha.ents]
  · simp only [Array.toList_push, List.map_append, List.map_cons, List.map_nil]
    rw [List.nodup_append]
    refine ⟨ha.born, by simp, fun a hx b hb => ?_⟩
    simp at hb
    obtain ⟨e, he, rfl⟩ := List.mem_map.1 hx
    have := ha.lt e he
    omega
  · simp only [Array.toList_push, List.mem_append, List.mem_singleton] at he
    rcases he with he | rfl
    · have := ha.lt e he; omega
    · show c < c + 1; omega

theorem MSet_of {w : World} {m : Nat} {ek : κ → Value} {kv : List (κ × Value)} {d : TypeDesc} (ho : KeyOk d ek) (h : MpR w m ek kv) (k : κ) (v : Value) {K : Pr} (hk : ∀ w', MpR w' m ek (aset k v kv) → Keeps [m] w w' → K w') : MSet d (some m) (ek k) v K w := by
  obtain ⟨es, c, hb, ha⟩ := h
  refine ⟨m, es, c, afind k kv 0, rfl, hb, findNow_kv ho k 0 ha.ents, hk _ ?_ ((Keeps.refl _ _).setObjW (.inl (by simp)) _)⟩
  cases hf : afind k kv 0 with
  | none => exact ⟨_, _, hp_setObjW_same (hp_lt hb), push_kv ha hf⟩
  | some p =>
    obtain ⟨i, v0⟩ := p
    exact ⟨_, _, hp_setObjW_same (hp_lt hb), set_kv ha hf (fun _ => rfl) (fun _ => rfl) (fun _ => rfl)⟩

theorem map_eraseIdx {α β : Type} (f : α → β) : ∀ (l : List α) (i : Nat), (l.eraseIdx i).map f = (l.map f).eraseIdx i
  | [], i => rfl
  | x :: l, 0 => rfl
  | x :: l, i + 1 => by simp only [List.eraseIdx_cons_succ, List.map_cons, map_eraseIdx f l i]

theorem MDel_of {w : World} {m : Nat} {ek : κ → Value} {kv : List (κ × Value)} {d : TypeDesc} (ho : KeyOk d ek) (h : MpR w m ek kv) (k : κ) {K : Pr} (hk : ∀ w', MpR w' m ek (adel k kv) → Keeps [m] w w' → K w') : MDel d (some m) (ek k) K w := by
  obtain ⟨es, c, hb, ha⟩ := h
  refine ⟨es, c, afind k kv 0, hb, findNow_kv ho k 0 ha.ents, hk _ ?_ ((Keeps.refl _ _).setObjW (.inl (by simp)) _)⟩
  cases hf : afind k kv 0 with
  | none => exact ⟨_, _, hp_setObjW_same (hp_lt hb), by rw [(afind_none hf).2.2]; exact ha⟩
  | some p =>
    obtain ⟨i, v0⟩ := p
    refine ⟨_, _, hp_setObjW_same (hp_lt hb), ?_⟩
    have hsub : List.Sublist (es.eraseIdxIfInBounds i).toList es.toList := by
      rw [Array.toList_eraseIdxIfInBounds]; exact List.eraseIdx_sublist _ _
    refine ⟨?_, adel_nodup ha.nd, (List.Sublist.map _ hsub).nodup ha.born, fun e he => ha.lt e (hsub.subset he)⟩
    rw [afind_adel hf, Nat.sub_zero, Array.toList_eraseIdxIfInBounds, map_eraseIdx, map_eraseIdx, ha.ents]

/-- 'm[k] = v' where the entry is laid first. -/
theorem MEnt_of {w : World} {m : Nat} {ek : κ → Value} {kv : List (κ × Value)} {d : TypeDesc} (ho : KeyOk d ek) (h : MpR w m ek kv) (k : κ) (zero v : Value) {K : Pr} (hk : ∀ w', MpR w' m ek (aset k v kv) → Keeps [m] w w' → K w') :
    MEnt d (some m) (ek k) zero (fun _ b => MPut (some m) b v K) w := by
  obtain ⟨es, c, hb, ha⟩ := h
  have hlt := hp_lt hb
  refine ⟨m, es, c, afind k kv 0, rfl, hb, findNow_kv ho k 0 ha.ents, ?_⟩
  have uniq : ∀ {xs : Array MapEntry} {i : Nat} {e : MapEntry}, (xs.toList.map (·.born)).Nodup → xs[i]? = some e → xs.findIdx? (fun x => (x.born : Int) == (e.born : Int)) = some i := by
    intro xs i e hn hi
    have hil := (Array.getElem?_eq_some_iff.1 hi).1
    rw [Array.findIdx?_eq_some_iff_getElem]
    refine ⟨hil, ?_, fun j hj => ?_⟩
    · have := (Array.getElem?_eq_some_iff.1 hi).2
      simp [this]
    · have hjl : j < xs.size := by omega
      have hne := (List.pairwise_iff_getElem.1 hn) j i (by simpa using hjl) (by simpa using hil) hj
      have hi' := (Array.getElem?_eq_some_iff.1 hi).2
      simp only [List.getElem_map, Array.getElem_toList, hi'] at hne
      simp
      omega
  cases hf : afind k kv 0 with
  | none =>
    simp only
    have hp := push_kv (v := v) ha hf
    have hb2 : (es.push { key := ek k, val := zero, born := c })[es.size]? = some { key := ek k, val := zero, born := c } := by simp
    refine ⟨m, _, _, (c : Int), es.size, rfl, rfl, hp_setObjW_same hlt, uniq (e := { key := ek k, val := zero, born := c }) (push_kv (v := zero) ha hf).born hb2, ?_⟩
    rw [setObjW_setObjW]
    refine hk _ ⟨_, _, hp_setObjW_same hlt, ?_⟩ ((Keeps.refl _ _).setObjW (.inl (by simp)) _)
    have : ((es.push { key := ek k, val := zero, born := c }).modify es.size fun e => { e with val := v }) = es.push { key := ek k, val := v, born := c } := by
      apply Array.ext_getElem?
      intro j
      simp only [Array.getElem?_modify, Array.getElem?_push]
      by_cases hj : es.size = j
      · subst hj; simp
      · simp [hj, Ne.symm hj]
    rw [this]
    exact hp
  | some p =>
    obtain ⟨i, v0⟩ := p
    simp only
    have hs := set_kv (v' := v) ha hf (e' := fun e => { e with key := ek k, val := v }) (fun _ => rfl) (fun _ => rfl) (fun _ => rfl)
    obtain ⟨_, hi⟩ := afind_at hf
    rw [Nat.sub_zero] at hi
    have hlen : es.toList.length = kv.length := by
      have := congrArg List.length ha.ents
      simpa using this
    have hil : i < es.size := by
      have := (List.getElem?_eq_some_iff.1 hi).1
      rw [← hlen] at this
      simpa using this
    have hei : es[i]? = some es[i] := by simp [hil]
    have hborn : (es.modify i fun e => { e with key := ek k }).toList.map (·.born) = es.toList.map (·.born) := by
      apply List.ext_getElem?
      intro j
      simp only [Array.toList_modify, List.getElem?_map, List.getElem?_modify]
      split
      · cases es.toList[j]? <;> simp
      · cases es.toList[j]? <;> simp
    have hm : (es.modify i fun e => { e with key := ek k })[i]? = some { es[i] with key := ek k } := by
      rw [Array.getElem?_modify, if_pos rfl, hei]
      rfl
    refine ⟨m, _, _, (es[i].born : Int), i, rfl, by simp [hil, goInt], hp_setObjW_same hlt, uniq (e := { es[i] with key := ek k }) (by rw [hborn]; exact ha.born) hm, ?_⟩
    rw [setObjW_setObjW]
    refine hk _ ⟨_, _, hp_setObjW_same hlt, ?_⟩ ((Keeps.refl _ _).setObjW (.inl (by simp)) _)
    have : ((es.modify i fun e => { e with key := ek k }).modify i fun e => { e with val := v }) = es.modify i fun e => { e with key := ek k, val := v } := by
      apply Array.ext_getElem?
      intro j
      simp only [Array.getElem?_modify]
      by_cases hj : i = j
      · subst hj; simp [hil]
      · simp [hj]
    rw [this]
    exact hs
end

theorem rdc_row {w : World} {b : Nat} {cs : List Value} {t : TypeId} {fr : Nat × Nat} (h : w.heap[b]? = some (.cells cs.toArray t fr)) : RdC (some ⟨b, 0, none⟩) cs.length cs w := by
  refine ⟨rfl, fun j v hj => ⟨_, rfl, ?_⟩⟩
  rw [add_of, cell_of h, Nat.zero_add, List.getElem?_toArray, hj]
theorem hp_alloc_eq (w : World) (o : Obj) {b : Nat} (h : b = w.heap.size) : (w.alloc o).heap[b]? = some o := by subst h; exact hp_alloc_new w o
theorem KeepsP.step {F : Nat → Prop} {m : List Nat} {a b c : World} (h : KeepsP F a b) (k : Keeps m b c) (hm : ∀ x ∈ m, F x ∨ a.heap.size ≤ x) : KeepsP F a c :=
  h.trans (k.toP (F := fun x => x ∈ m) (fun x hx => .inl hx)) hm
theorem KeepsP.same {F : Nat → Prop} {a b c : World} (h : KeepsP F a b) (k : KeepsP F b c) : KeepsP F a c := h.trans k (fun x hx => .inl hx)
/-- A cell of a block is written. -/
theorem set_box {w : World} {b : Nat} {cs : Array Value} {t : TypeId} (h : w.heap[b]? = some (.cells cs t (0, 0))) (i : Nat) (v : Value) (h1 : v.oneCell' = true) (hi : i < cs.size) {K : Pr}
    (k : ∀ w', w'.heap[b]? = some (.cells (cs.setIfInBounds i v) t (0, 0)) → Keeps [b] w w' → K w') : St ⟨b, i, none⟩ v K w :=
  St_of h h1 hi (by simp) (k _ (hp_setObjW_same (hp_lt h)) ((Keeps.refl _ _).setObjW (.inl (by simp)) _))

theorem Cl_gen {P : Program} {f : FuncId} {args : List Value} {tup : Bool} {rs : List RK} {Q : TR rs → Pr} {w : World} (h : ∀ R : TR rs → Pr, (∀ r w', Q r w' → R r w') → Cl P f args tup rs R w) : Cl P f args tup rs Q w := h Q fun _ _ h => h
theorem Inv_of {P : Program} {t : TypeId} {x : Value} {name : String} {f : FuncId} {args : List Value} {tup : Bool} {rs : List RK} {K : TR rs → Pr} {w : World} (h : methD P t name = some f) (hc : Cl P f (x :: args) tup rs K w) : Inv P (.iface t x) name args tup rs K w := by
  unfold Inv
  simp only [h]
  exact hc

theorem Inv.mono {P : Program} {v : Value} {name : String} {args : List Value} {tup : Bool} {rs : List RK} {K K' : TR rs → Pr} {w : World} (h : Inv P v name args tup rs K w) (hk : ∀ s w', K s w' → K' s w') : Inv P v name args tup rs K' w := by
  unfold Inv at *
  split at h
  · rename_i t x
    split at h
    · exact Cl.mono h hk
    · exact h.elim
  · exact h.elim
theorem CallV.mono {P : Program} {v : Value} {args : List Value} {tup : Bool} {rs : List RK} {K K' : TR rs → Pr} {w : World} (h : CallV P v args tup rs K w) (hk : ∀ s w', K s w' → K' s w') : CallV P v args tup rs K' w := by
  unfold CallV at *
  split at h
  · rename_i fn first cap
    split at h
    · split at h
      · exact Cl.mono h hk
      · obtain ⟨s, w', h1, h2⟩ := h
        exact ⟨s, w', h1, hk _ _ h2⟩
    · exact Yd.mono h hk
    · exact h.elim
  · exact h.elim

/-- '(x % m + m) % m'. -/
theorem wrapMod (x : Int) (m : Nat) (h0 : 0 < m) (h1 : m < 4611686018427387904) : ∃ k : Nat, k < m ∧ (w64 (x.tmod m + m)).tmod m = k := by
  have a1 := Int.tmod_lt_of_pos x (show (0 : Int) < m by omega)
  have a2 := Int.lt_tmod_of_pos x (show (0 : Int) < m by omega)
  rw [w64_in (by omega) (by omega)]
  obtain ⟨n, hn⟩ : ∃ n : Nat, x.tmod m + m = n := ⟨(x.tmod m + m).toNat, by omega⟩
  rw [hn, tmod_nat]
  exact ⟨n % m, Nat.mod_lt _ h0, rfl⟩

/-! ### slices.Clone -/
theorem Clone_w {e size bytes : Nat} {z : Array Value} {s : Sl} {cs : List Value} {K : Sl → Pr} {w : World} (hz : z.size = size) (h0 : 0 < size) (h : RdC s.p (s.len * size) cs w) (h1 : ∀ v ∈ cs, v.oneCell' = true) (h47 : s.len * bytes ≤ 140737488355328) (h63 : s.len ≤ 9223372036854775807)
    (k : ∀ r w', SlC w' r size cs → r.len = s.len → Keeps [] w w' → (∀ x ∈ blk r, w.heap.size ≤ x) → K r w') :
    Br (Option.isNone s.p) (K ⟨none, 0, 0⟩) (New #[] e fun a => App e size bytes z ⟨some a, 0, 0⟩ s.len (srcS s.p s.len size) K) w := by
  cases hp : s.p with
  | none =>
    rw [hp] at h
    have hcs : cs = [] := by
      cases cs with
      | nil => rfl
      | cons v vs => obtain ⟨a, ha, _⟩ := h.2 0 v rfl; cases ha
    have hl := h.1
    rw [hcs] at hl
    have h00 : s.len = 0 := by
      rcases Nat.mul_eq_zero.1 hl.symm with h' | h'
      · exact h'
      · omega
    rw [hcs] at k
    exact k _ _ (SlC.nil w size) (by simp [h00]) (Keeps.refl _ _) (by simp [blk])
  | some a =>
    simp only [Option.isNone_some, Br, New]
    rw [hp] at h
    have hr : RdC (some a) (s.len * size) cs (w.alloc (.cells #[] e)) := rdc_keeps h ((Keeps.refl [] w).alloc _) (by simp)
    refine App_of (cs := []) (new := cs) ⟨by simp, Nat.le_refl _, .inl rfl⟩ hr h.1 h1 hz (by simpa using h47) (by simpa using h63) ?_
    intro r w' hs hl hk hb
    have hk' : Keeps [] w w' := (((Keeps.refl [] w).alloc _)).trans hk (by simp [blk])
    refine k r w' (by simpa using hs) (by simpa using hl) hk' fun x hx => ?_
    rcases hb x hx with h' | h'
    · simp [blk] at h'
    · rw [World.size_alloc] at h'; omega

end Go.Sx
