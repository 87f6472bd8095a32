/-
  'heavyD': the operations that write or make memory, and calls; 'heavyD_sound'. 'opD': every operation.
-/
import Derived.Test.YtmppjgddemlmdaaSxG
set_option linter.unusedSimpArgs false
set_option linter.unusedVariables false
namespace Go.Sx
open Go

/-! ### maps: writing -/
def setObjW (w : World) (r : Nat) (o : Obj) : World := { w with heap := w.heap.setIfInBounds r o }

theorem run_setObj {P : Program} {w : World} {r : Nat} {es : Array MapEntry} {c : Nat} (h : w.heap[r]? = some (.map es c)) (o : Obj) : (setObj r o).run P w = .ok () (setObjW w r o) := by
  simp [setObj, Sem.run, h, setObjW]

theorem run_getObj {P : Program} {w : World} {r : Nat} {es : Array MapEntry} {c : Nat} (h : w.heap[r]? = some (.map es c)) : (getObj r).run P w = .ok (.map es c) w := by
  simp [getObj, Sem.run, h]

theorem findNow_at {d : TypeDesc} {key : Value} : ∀ {es : List MapEntry} {n i : Nat} {v : Value}, Instr.findNow d key es n = some (some (i, v)) →
    n ≤ i ∧ ∃ e, es[i - n]? = some e ∧ e.val = v ∧ Instr.sameNow d key e.key = some true
  | [], n, i, v, h => by simp [Instr.findNow] at h
  | e :: es, n, i, v, h => by
    simp only [Instr.findNow] at h
    split at h
    · rename_i hs
      simp only [Option.some.injEq, Prod.mk.injEq] at h
      obtain ⟨rfl, rfl⟩ := h
      exact ⟨Nat.le_refl _, e, by simp, rfl, hs⟩
    · obtain ⟨h1, e', h2, h3, h4⟩ := findNow_at h
      refine ⟨by omega, e', ?_, h3, h4⟩
      rw [show i - n = (i - (n + 1)) + 1 from by omega]
      simpa using h2
    · cases h

theorem sameBits_of_now {d : TypeDesc} {a b : Value} (h : Instr.sameNow d a b = some true) : ∀ n, Instr.sameBits n b a = true := by
  intro n
  unfold Instr.sameNow at h
  split at h
  · split at h
    · rename_i hk
      subst hk
      simp only [Option.some.injEq, beq_iff_eq] at h
      subst h
      cases n <;> simp [Instr.sameBits]
    · cases h
  · simp only [Option.some.injEq] at h
    rw [beq_toListBytes] at h
    have h' := (beq_iff_eq.1 h).symm
    cases n <;> simp only [Instr.sameBits] <;> rw [beq_toListBytes] <;> exact beq_iff_eq.2 h'
  · simp only [Option.some.injEq, beq_iff_eq] at h
    subst h
    cases n <;> simp [Instr.sameBits]
  · cases h

/-- A value stored into a map. -/
def MSet (d : TypeDesc) (m : Option Nat) (key v : Value) (K : Pr) : Pr := fun w =>
  ∃ r es c f, m = some r ∧ w.heap[r]? = some (.map es c) ∧ Instr.findNow d key es.toList 0 = some f ∧
    K (setObjW w r (match f with
      | some (i, _) => .map (es.modify i fun e => { e with key, val := v }) c
      | none => .map (es.push { key, val := v, born := c }) (c + 1)))

theorem MSet_sound {P : Program} {t kt et : TypeId} {d : TypeDesc} {m : Option Nat} {key v : Value} {K : Pr} {w : World} (hu : P.underlying t = some (.map kt et)) (hk : plainKey P kt = some d) (h : MSet d m key v K w) :
    ∃ w', (Instr.mapUpdate t (.map m) key v).run P w = .ok () w' ∧ K w' := by
  obtain ⟨r, es, c, f, rfl, hr, hf, hK⟩ := h
  have hud := (plainKey_under hk).1
  refine ⟨_, ?_, hK⟩
  have hgo : (Instr.findKey kt key es.toList).run P w = .ok f w := by
    simp only [Instr.findKey, Sem.run_bind, run_underlying hud, Result.andThen_ok, hf, Sem.run_pure]
  simp only [Instr.mapUpdate, Sem.run_bind, run_underlying hu, Result.andThen_ok, run_getObj hr, run_checkKey hk]
  rw [hgo]
  cases f with
  | none => simp only [Result.andThen_ok]; exact run_setObj hr _
  | some p =>
    obtain ⟨i, v'⟩ := p
    obtain ⟨_, e, he, _, hs⟩ := findNow_at hf
    have he' : es[i]? = some e := by simpa using he
    have hkey : (Instr.keyThatStays (((es[i]?).map (·.key)).getD key) key).run P w = .ok key w := by
      simp only [Instr.keyThatStays, he', Option.map_some, Option.getD_some, sameBits_of_now hs 10000, if_true, Sem.run_pure]
    simp only [Result.andThen_ok, Sem.run_bind, hkey]
    exact run_setObj hr _

def mapSetD (P : Program) (t : TypeId) (m key v : Value) (K : Pr) (w : World) : Prop :=
  match P.underlying t with
  | some (.map kt _) => match plainKey P kt with
    | some d => match m with
      | .map r => MSet d r key v K w
      | _ => F w
    | none => F w
  | _ => F w

/-- An entry found, or made with the element's zero. -/
def MEnt (d : TypeDesc) (m : Option Nat) (key zero : Value) (K : Value → Value → Pr) : Pr := fun w =>
  ∃ r es c f, m = some r ∧ w.heap[r]? = some (.map es c) ∧ Instr.findNow d key es.toList 0 = some f ∧
    (match f with
      | some (i, v) => K v (goInt (((es[i]?).map (·.born)).getD 0)) (setObjW w r (.map (es.modify i fun e => { e with key := key }) c))
      | none => K zero (goInt c) (setObjW w r (.map (es.push { key, val := zero, born := c }) (c + 1))))

theorem MEnt_sound {P : Program} {t kt et : TypeId} {d : TypeDesc} {m : Option Nat} {key zero : Value} {K : Value → Value → Pr} {w : World} (hu : P.underlying t = some (.map kt et)) (hk : plainKey P kt = some d) (hz : zeroOf P et = some zero) (h : MEnt d m key zero K w) :
    ∃ v b w', (Instr.mapEntry t (.map m) key).run P w = .ok (.tuple #[v, b]) w' ∧ K v b w' := by
  obtain ⟨r, es, c, f, rfl, hr, hf, hK⟩ := h
  have hud := (plainKey_under hk).1
  have hgo : (Instr.findKey kt key es.toList).run P w = .ok f w := by
    simp only [Instr.findKey, Sem.run_bind, run_underlying hud, Result.andThen_ok, hf, Sem.run_pure]
  cases f with
  | none =>
    refine ⟨_, _, _, ?_, hK⟩
    simp only [Instr.mapEntry, Sem.run_bind, run_underlying hu, Result.andThen_ok, run_getObj hr, run_checkKey hk, hgo, run_zeroOf hz, run_setObj hr, Sem.run_pure]
  | some p =>
    obtain ⟨i, v'⟩ := p
    obtain ⟨_, e, he, _, hs⟩ := findNow_at hf
    have he' : es[i]? = some e := by simpa using he
    have hkey : (Instr.keyThatStays (((es[i]?).map (·.key)).getD key) key).run P w = .ok key w := by
      simp only [Instr.keyThatStays, he', Option.map_some, Option.getD_some, sameBits_of_now hs 10000, if_true, Sem.run_pure]
    refine ⟨_, _, _, ?_, hK⟩
    simp only [Instr.mapEntry, Sem.run_bind, run_underlying hu, Result.andThen_ok, run_getObj hr, run_checkKey hk, hgo, hkey, run_setObj hr, Sem.run_pure]

/-- The entry of that stamp gets a value. -/
def MPut (m : Option Nat) (stamp v : Value) (K : Pr) : Pr := fun w =>
  ∃ r es c n i, m = some r ∧ stamp = .int .i64 n ∧ w.heap[r]? = some (.map es c) ∧ es.findIdx? (fun e => (e.born : Int) == n) = some i ∧ K (setObjW w r (.map (es.modify i fun e => { e with val := v }) c))

theorem MPut_sound {P : Program} {t : TypeId} {m : Option Nat} {stamp v : Value} {K : Pr} {w : World} (h : MPut m stamp v K w) : ∃ w', (Instr.entryStore t (.map m) stamp v).run P w = .ok () w' ∧ K w' := by
  obtain ⟨r, es, c, n, i, rfl, rfl, hr, hi, hK⟩ := h
  refine ⟨_, ?_, hK⟩
  simp only [Instr.entryStore, Sem.run_bind, Result.andThen_ok, run_getObj hr, asInt, asIntOf, Sem.run_pure, hi, run_setObj hr]

/-- An entry taken out of a map. -/
def MDel (d : TypeDesc) (m : Option Nat) (key : Value) (K : Pr) : Pr := fun w =>
  match m with
  | none => K w
  | some r => ∃ es c f, w.heap[r]? = some (.map es c) ∧ Instr.findNow d key es.toList 0 = some f ∧
    K (setObjW w r (match f with
      | some (i, _) => .map (es.eraseIdxIfInBounds i) c
      | none => .map es c))

theorem MDel_sound {P : Program} {t kt et : TypeId} {d : TypeDesc} {m : Option Nat} {key : Value} {K : Pr} {w : World} (hu : P.underlying t = some (.map kt et)) (hk : plainKey P kt = some d) (ts : Array TypeId) (ty : TypeId) (h : MDel d m key K w) :
    ∃ w', (Builtin.delete_ #[t, kt] ty #[.map m, key]).run P w = .ok (.tuple #[]) w' ∧ K w' := by
  have hud := (plainKey_under hk).1
  cases m with
  | none => exact ⟨w, by simp [Builtin.delete_, run_underlying hu, run_checkKey hk], h⟩
  | some r =>
    obtain ⟨es, c, f, hr, hf, hK⟩ := h
    refine ⟨_, ?_, hK⟩
    have hgo : (Instr.findKey kt key es.toList).run P w = .ok f w := by
      simp only [Instr.findKey, Sem.run_bind, run_underlying hud, Result.andThen_ok, hf, Sem.run_pure]
    cases f with
    | none => simp [Builtin.delete_, run_underlying hu, run_checkKey hk, run_getObj hr, hgo, run_setObj hr]
    | some p => simp [Builtin.delete_, run_underlying hu, run_checkKey hk, run_getObj hr, hgo, run_setObj hr]

/-! ### ranges over maps -/
theorem run_getIt {P : Program} {w : World} {r : Nat} {mo : Option Nat} {a : Nat} {s : Array Nat} {l : Nat} (h : w.heap[r]? = some (.mapIter mo a s l)) : (getObj r).run P w = .ok (.mapIter mo a s l) w := by
  simp [getObj, Sem.run, h]
theorem run_setIt {P : Program} {w : World} {r : Nat} {mo : Option Nat} {a : Nat} {s : Array Nat} {l : Nat} (o : Obj) (h : w.heap[r]? = some (.mapIter mo a s l)) : (setObj r o).run P w = .ok () (setObjW w r o) := by
  simp [setObj, Sem.run, h, setObjW]
/-- An iterator over a map. -/
def RgM (m : Option Nat) (K : Addr → Pr) : Pr := fun w =>
  match m with
  | none => K ⟨w.heap.size, 0, none⟩ (w.alloc (.mapIter none 0 #[] 0))
  | some r => ∃ es c, w.heap[r]? = some (.map es c) ∧ K ⟨w.heap.size, 0, none⟩ (w.alloc (.mapIter (some r) c #[] c))

theorem RgM_sound {P : Program} {t kt et : TypeId} {m : Option Nat} {K : Addr → Pr} {w : World} (hu : P.underlying t = some (.map kt et)) (h : RgM m K w) :
    ∃ a w', (Instr.range t (.map m)).run P w = .ok (.pointer (some a)) w' ∧ K a w' := by
  cases m with
  | none => exact ⟨_, _, by simp [Instr.range, run_underlying hu], h⟩
  | some r =>
    obtain ⟨es, c, hr, h⟩ := h
    exact ⟨_, _, by simp [Instr.range, run_underlying hu, run_getObj hr], h⟩

/-- The iterator's next step: whichever entry that has not been seen; or the end. -/
def NxM (a : Addr) (Kt : Value → Value → Pr) (Kf : Pr) : Pr := fun w =>
  a.off = 0 ∧ ∃ (mo : Option Nat) (since : Nat) (seen : Array Nat) (last : Nat), w.heap[a.block]? = some (.mapIter mo since seen last) ∧
    match mo with
    | none => Kf w
    | some m => ∃ (es : List MapEntry) (clock : Nat), w.heap[m]? = some (.map es.toArray clock) ∧ (seen = #[] ∨ es = [] ∨ ∃ e ∈ es, e.born < last) ∧
      ∀ w1, (w1 = w ∨ w1 = w.drew) →
        (∀ e ∈ es, seen.contains e.born = false → Kt e.key e.val (setObjW w1 a.block (.mapIter (some m) since (seen.push e.born) clock))) ∧
        ((∀ e ∈ es, e.born < since → seen.contains e.born = true) → Kf w1)

theorem NxM_sound {P : Program} {t : TypeId} {a : Addr} {Kt : Value → Value → Pr} {Kf : Pr} {w : World} (h : NxM a Kt Kf w) :
    ∃ v w', (Instr.next (.pointer (some a)) false t).run P w = .ok v w' ∧ ((∃ k x, v = .tuple #[.bool true, k, x] ∧ Kt k x w') ∨ (v = .tuple #[.bool false] ∧ Kf w')) := by
  obtain ⟨h0, mo, since, seen, last, hit, h⟩ := h
  obtain ⟨ab, ao, av⟩ := a
  simp only at h0 hit
  subst h0
  cases mo with
  | none => exact ⟨_, _, by simp only [Instr.next, Sem.run_bind, run_getIt hit, Result.andThen_ok, Sem.run_pure], .inr ⟨rfl, h⟩⟩
  | some m =>
    obtain ⟨es, clock, hm, hg, h⟩ := h
    have hguard : (!seen.isEmpty && !es.toArray.isEmpty && es.toArray.all (·.born ≥ last)) = false := by
      rcases hg with rfl | rfl | ⟨e, he, hl⟩
      · simp
      · simp
      · have : (es.toArray.all (·.born ≥ last)) = false := by
          simp only [List.all_toArray, List.all_eq_false, decide_eq_true_eq, Nat.not_le]
          exact ⟨e, he, hl⟩
        simp only [this, Bool.and_false]
    have key : ∀ (w1 : World), (w1 = w ∨ w1 = w.drew) → ∀ (c : Option MapEntry), (c = none → (∀ e ∈ es, e.born < since → seen.contains e.born = true)) → (∀ e, c = some e → e ∈ es ∧ seen.contains e.born = false) →
        ∃ v w', (match some c with
          | some (some e) => (do setObj ab (.mapIter (some m) since (seen.push e.born) clock); pure (.tuple #[.bool true, e.key, e.val]) : Sem Value)
          | some none => pure (.tuple #[.bool false])
          | none => stuck "Next: no such candidate").run P w1 = .ok v w' ∧ ((∃ k x, v = .tuple #[.bool true, k, x] ∧ Kt k x w') ∨ (v = .tuple #[.bool false] ∧ Kf w')) := by
      intro w1 hw1 c h1 h2
      have h := h w1 hw1
      cases c with
      | none => exact ⟨_, _, rfl, .inr ⟨rfl, h.2 (h1 rfl)⟩⟩
      | some e =>
        obtain ⟨he, hs⟩ := h2 e rfl
        have hit1 : w1.heap[ab]? = some (.mapIter (some m) since seen last) := by rcases hw1 with rfl | rfl <;> exact hit
        refine ⟨_, _, ?_, .inl ⟨_, _, rfl, h.1 e he hs⟩⟩
        simp only [Sem.run_bind, run_setIt _ hit1, Result.andThen_ok, Sem.run_pure]
    generalize hleft : es.toArray.filter (fun e => !seen.contains e.born) = left
    generalize hold : left.filter (fun e => decide (e.born < since)) = old
    generalize hnew : left.filter (fun e => decide (e.born ≥ since)) = new
    have hmemleft : ∀ e, e ∈ left → e ∈ es ∧ seen.contains e.born = false := by
      intro e he
      rw [← hleft] at he
      simp only [Array.mem_filter, List.mem_toArray, Bool.not_eq_true'] at he
      exact he
    have hcand : ∀ c, c ∈ ((if old.isEmpty then #[none] else #[]) ++ (old ++ new).map some : Array (Option MapEntry)) → (c = none → (∀ e ∈ es, e.born < since → seen.contains e.born = true)) ∧ (∀ e, c = some e → e ∈ es ∧ seen.contains e.born = false) := by
      intro c hc
      refine ⟨fun hn e he hlt => ?_, fun e hce => ?_⟩
      · subst hn
        have : old.isEmpty = true := by
          cases ho : old.isEmpty with
          | true => rfl
          | false => rw [ho] at hc; simp at hc
        by_cases hs : seen.contains e.born = true
        · exact hs
        · have hin : e ∈ old := by
            rw [← hold, ← hleft]
            simp only [Array.mem_filter, List.mem_toArray, Bool.not_eq_true', decide_eq_true_eq]
            exact ⟨⟨he, by simpa using hs⟩, hlt⟩
          rw [Array.isEmpty_iff] at this
          rw [this] at hin
          simp at hin
      · subst hce
        have : e ∈ old ++ new := by
          rcases Array.mem_append.1 hc with hc | hc
          · split at hc <;> simp at hc
          · simpa using hc
        rw [Array.mem_append] at this
        rcases this with h | h
        · rw [← hold] at h; exact hmemleft e (Array.mem_filter.1 h).1
        · rw [← hnew] at h; exact hmemleft e (Array.mem_filter.1 h).1
    have hpos : 0 < ((if old.isEmpty then #[none] else #[]) ++ (old ++ new).map some : Array (Option MapEntry)).size := by
      cases ho : old.isEmpty with
      | true => simp; omega
      | false =>
        have : 0 < old.size := by
          rw [Nat.pos_iff_ne_zero]; intro hz
          have := Array.isEmpty_iff_size_eq_zero.2 hz
          rw [ho] at this; cases this
        simp; omega
    generalize hcs : ((if old.isEmpty then #[none] else #[]) ++ (old ++ new).map some : Array (Option MapEntry)) = cands at hcand hpos
    have hrun : (Instr.next (.pointer (some ⟨ab, 0, av⟩)) false t).run P w = ((choose (.mapNext cands.size)).run P w).andThen fun n w1 => (match cands[n]? with
          | some (some e) => (do setObj ab (.mapIter (some m) since (seen.push e.born) clock); pure (.tuple #[.bool true, e.key, e.val]) : Sem Value)
          | some none => pure (.tuple #[.bool false])
          | none => stuck "Next: no such candidate").run P w1 := by
      simp only [Instr.next, Sem.run_bind, run_getIt hit, run_getObj hm, Result.andThen_ok, hguard, Bool.false_eq_true, if_false, hleft, hold, hnew, Sem.run_pure]
      rw [hcs]
      rfl
    rw [hrun, run_choose_drew]
    split
    · rename_i hf
      simp only [Result.andThen_ok]
      have h0 : cands[0]? = some cands[0] := Array.getElem?_eq_getElem hpos
      rw [h0]
      have := hcand cands[0] (Array.getElem_mem _)
      exact key w (.inl rfl) _ this.1 this.2
    · simp only [Result.andThen_ok]
      generalize hn : (Question.mapNext cands.size).cut (w.tape w.drawn (.mapNext cands.size)) = n
      have hlt : n < cands.size := by
        rw [← hn]
        exact Nat.mod_lt _ hpos
      rw [Array.getElem?_eq_getElem hlt]
      have := hcand cands[n] (Array.getElem_mem _)
      exact key w.drew (.inr rfl) _ this.1 this.2

/-! ### what an interface holds -/
/-- 'x.(T)' of a type T that is no interface. -/
def TaK (t : TypeId) (x : Value) (K : Value → Pr) : Pr := fun w => ∃ y, x = .iface t y ∧ K y w

/-! ### clear -/
def ClrS (z : Array Value) (s : Sl) (K : Pr) : Pr := fun w =>
  match s.len with
  | 0 => K w
  | n + 1 => match s.p with
    | none => K w
    | some a => StR (Builtin.zeroCells z (n + 1)).toList a 0 K w
def ClrM (m : Option Nat) (K : Pr) : Pr := fun w =>
  match m with
  | none => K w
  | some r => ∃ es c, w.heap[r]? = some (.map es c) ∧ K (setObjW w r (.map #[] c))

theorem ClrS_sound {P : Program} {t e : TypeId} {z : Value} {s : Sl} {K : Pr} {w : World} (hu : P.underlying t = some (.slice e)) (hz : zeroOf P e = some z) (ty : TypeId) (h : ClrS z.cells s K w) :
    ∃ w', (Builtin.clear_ #[t] ty #[.slice s.p s.len s.cap]).run P w = .ok (.tuple #[]) w' ∧ K w' := by
  obtain ⟨p, l, c⟩ := s
  unfold ClrS at h
  simp only at h ⊢
  cases l with
  | zero => exact ⟨w, by cases p <;> simp [Builtin.clear_, run_underlying hu], h⟩
  | succ n =>
    simp only at h
    cases p with
    | none => exact ⟨w, by simp [Builtin.clear_, run_underlying hu], h⟩
    | some a =>
      obtain ⟨w', h1, h2⟩ := StR_elim (P := P) h
      refine ⟨w', ?_, h2⟩
      simp only [Builtin.clear_, List.getElem?_toArray, List.getElem?_cons_zero, Sem.run_bind, run_underlying hu, Result.andThen_ok, run_zeroOf hz, h1, Sem.run_pure]
theorem ClrM_sound {P : Program} {t kt et : TypeId} {m : Option Nat} {K : Pr} {w : World} (hu : P.underlying t = some (.map kt et)) (ty : TypeId) (h : ClrM m K w) :
    ∃ w', (Builtin.clear_ #[t] ty #[.map m]).run P w = .ok (.tuple #[]) w' ∧ K w' := by
  cases m with
  | none => exact ⟨w, by simp [Builtin.clear_, run_underlying hu], h⟩
  | some r =>
    obtain ⟨es, c, hr, h⟩ := h
    exact ⟨_, by simp [Builtin.clear_, run_underlying hu, run_getObj hr, run_setObj hr], h⟩

/-! ### a conversion between slices of bytes -/
def MkS (p : Option Addr) (K : Pr) : Pr := fun w =>
  ∃ a cs t, p = some a ∧ w.heap[a.block]? = some (.cells cs t (0, 0)) ∧ K (setObjW w a.block (.cells cs t (cs.size, cs.size + 1)))

theorem MkS_sound {P : Program} {src e : TypeId} {p : Option Addr} {l c : Nat} {K : Pr} {w : World} (hs : P.underlying src = some (.slice e)) (he : P.underlying e = some (.int .u8)) (h : MkS p K w) :
    ∃ w', (convert src src (.slice p l c)).run P w = .ok (.slice p l c) w' ∧ K w' := by
  obtain ⟨a, cs, t, rfl, hb, hk⟩ := h
  refine ⟨_, ?_, hk⟩
  have hsh : w.shape? a.block = some (t, cs.size) := by simp [World.shape?, hb]
  have hf : w.freeze { block := a.block, off := cs.size } 1 = setObjW w a.block (.cells cs t (cs.size, cs.size + 1)) := by
    simp only [World.freeze, setObjW]
    rw [if_neg (by decide)]
    congr 1
    apply Array.ext_getElem?
    intro j
    rw [Array.getElem?_modify, Array.getElem?_setIfInBounds]
    by_cases hj : a.block = j
    · subst hj
      rw [if_pos rfl, if_pos rfl, hb, if_pos (Array.getElem?_eq_some_iff.1 hb).1]
      rfl
    · rw [if_neg hj, if_neg hj]
  simp [convert, run_underlying hs, run_underlying he, markStringish, hsh, hf]

/-! ### the others -/
/-- 'make([]T, n, c)'. -/
def Mk (e : TypeId) (size bytes : Nat) (z : Array Value) (l c : Int) (K : Sl → Pr) : Pr := fun w =>
  0 ≤ l ∧ l ≤ c ∧ (bytes : Int) * c ≤ 281474976710656 ∧ c ≤ 9223372036854775807 ∧
    K ⟨some ⟨w.heap.size, 0, none⟩, l.toNat, c.toNat⟩ (w.alloc (.cells (madeCells z (c.toNat * size)) e))

def makeSliceD (P : Program) (t : TypeId) (l c : Value) (K : Value → Pr) (w : World) : Prop :=
  match P.underlying t with
  | some (.slice e) => match P.info? e with
    | some i => match i.zero with
      | some z => match l with
        | .int _ l => match c with
          | .int _ c => Mk e i.size i.bytes z.cells l c (fun r => K (.slice r.p r.len r.cap)) w
          | _ => F w
        | _ => F w
      | none => F w
    | none => F w
  | _ => F w

theorem makeSliceD_sound {P : Program} {t : TypeId} {l c : Value} {K : Value → Pr} {w : World} (h : makeSliceD P t l c K w) :
    ∃ v w', (Instr.makeSlice t l c).run P w = .ok v w' ∧ K v w' := by
  simp only [makeSliceD] at h
  split at h
  · rename_i e hu
    split at h
    · rename_i i hi
      split at h
      · rename_i z hz
        split at h
        · rename_i kl l
          split at h
          · rename_i kc c
            obtain ⟨h0, h1, h2, h3, hk⟩ := h
            exact ⟨_, _, run_make w t e i z hu hi hz kl kc l c h0 h1 h2 h3, hk⟩
          · exact h.elim
        · exact h.elim
      · exact h.elim
    · exact h.elim
  · exact h.elim

/-- The cells of n elements that are zero. -/
def zerosL (zs : List Value) : Nat → List Value
  | 0 => []
  | n + 1 => zs ++ zerosL zs n

theorem zerosL_length (zs : List Value) (n : Nat) : (zerosL zs n).length = n * zs.length := by
  induction n with
  | zero => simp [zerosL]
  | succ n ih => simp [zerosL, ih, Nat.succ_mul, Nat.add_comm]

theorem zerosL_get (zs : List Value) (hz : 0 < zs.length) : ∀ (n j : Nat), j < n * zs.length → (zerosL zs n)[j]? = zs[j % zs.length]?
  | 0, j, h => by simp at h
  | n + 1, j, h => by
    simp only [zerosL]
    by_cases hj : j < zs.length
    · rw [List.getElem?_append_left hj, Nat.mod_eq_of_lt hj]
    · have hs : (n + 1) * zs.length = n * zs.length + zs.length := Nat.succ_mul _ _
      have hm : j % zs.length = (j - zs.length) % zs.length := Nat.mod_eq_sub_mod (by omega)
      rw [List.getElem?_append_right (by omega), zerosL_get zs hz n (j - zs.length) (by omega), hm]

theorem zeros_eq (zs : Array Value) (n : Nat) : ((Array.range (n * zs.size)).map (fun x => zs[x % zs.size]!)) = (zerosL zs.toList n).toArray := by
  apply Array.ext_getElem?
  intro j
  by_cases hz : zs.size = 0
  · have : zs = #[] := by simpa using hz
    subst this
    have h0 : zerosL ([] : List Value) n = [] := by
      have := zerosL_length ([] : List Value) n
      simpa using this
    simp [h0]
  · have hl : (zerosL zs.toList n).length = n * zs.size := by simpa using zerosL_length zs.toList n
    by_cases hj : j < n * zs.size
    · have hm : j % zs.size < zs.size := Nat.mod_lt _ (by omega)
      have := zerosL_get zs.toList (by simp; omega) n j (by simpa using hj)
      simp only [List.getElem?_toArray, this]
      simp [hj, hm]
    · rw [Array.getElem?_eq_none (by simp; omega), Array.getElem?_eq_none (by simp [hl]; omega)]

def placeE (size : Nat) (e : TypeId) (i : Nat) : Option (Nat × TypeId) := some (i * size, e)

def buildSliceD (P : Program) (t : TypeId) (n : Nat) (parts : List (Nat × Value)) (K : Value → Pr) (w : World) : Prop :=
  match P.underlying t with
  | some (.slice e) => match P.info? e with
    | some i => match i.zero with
      | some z => match decide (i.size = z.cells.size) && decide (0 < i.size) && decide (n * i.size ≤ 16777216) with
        | true => fillD P (placeE i.size e) parts (zerosL z.cells.toList n) (fun r => New r.toArray e (fun a => K (.slice (some a) n n))) w
        | false => F w
      | none => F w
    | none => F w
  | _ => F w

theorem buildSliceD_sound {P : Program} {t : TypeId} {n : Nat} {parts : Array (Nat × Value)} {K : Value → Pr} {w : World} (h : buildSliceD P t n parts.toList K w) :
    ∃ v w', (Instr.buildSlice t n parts).run P w = .ok v w' ∧ K v w' := by
  simp only [buildSliceD] at h
  split at h
  · rename_i e hu
    split at h
    · rename_i i hi
      split at h
      · rename_i z hz
        split at h
        · rename_i hc
          simp only [Bool.and_eq_true, decide_eq_true_eq] at hc
          obtain ⟨⟨h1, h2⟩, h3⟩ := hc
          obtain ⟨r, hr, hk⟩ := fillD_sound (place' := fun k => some (k * i.size, i.size)) (fun k off u inf hp hi' => by
            simp only [placeE, Option.some.injEq, Prod.mk.injEq] at hp
            obtain ⟨rfl, rfl⟩ := hp
            rw [hi] at hi'
            simp only [Option.some.injEq] at hi'
            subst hi'
            rfl) h
          refine ⟨_, _, ?_, hk⟩
          have h3' : ¬ (16777216 < n * i.size) := by omega
          simp only [Instr.buildSlice, Sem.run_bind, run_underlying hu, Result.andThen_ok, run_sizeOf' hi]
          rw [if_neg (by simpa using h3')]
          split
          · rename_i h0
            have hn : n = 0 := by
              rcases Nat.mul_eq_zero.1 h0 with h | h
              · exact h
              · omega
            subst hn
            have hzz : ((Array.range (0 * i.size)).map (fun x => (#[] : Array Value)[x % (#[] : Array Value).size]!)) = (zerosL z.cells.toList 0).toArray := by
              simp [zerosL]
            simp only [Sem.run_bind, Sem.run_pure, Result.andThen_ok, hzz]
            rw [hr]
            simp only [newRow, Sem.run_bind, run_newObj, Result.andThen_ok, Sem.run_pure]
            rfl
          · have hzz : ((Array.range (n * i.size)).map (fun x => z.cells[x % z.cells.size]!)) = (zerosL z.cells.toList n).toArray := by
              rw [h1]
              exact zeros_eq z.cells n
            have hzv : (zeroValue e).run P w = .ok z w := by simp [zeroValue, typeInfo, hi, hz]
            simp only [Sem.run_bind, Sem.run_pure, Result.andThen_ok, hzv, hzz]
            rw [hr]
            simp only [newRow, Sem.run_bind, run_newObj, Result.andThen_ok, Sem.run_pure]
            rfl
        · exact h.elim
      · exact h.elim
    · exact h.elim
  · exact h.elim

def newD (P : Program) (t : TypeId) (v : Value) (K : Value → Pr) (w : World) : Prop :=
  match isAggB P t with
  | true => match v with
    | .agg cs => New cs t (fun a => K (.pointer (some a))) w
    | _ => F w
  | false => match kd P t with
    | some .v => Req (v.oneCell' = true) (New #[v] t (fun a => K (.pointer (some a)))) w
    | _ => match v.oneCell' with
      | true => New #[v] t (fun a => K (.pointer (some a))) w
      | false => F w

theorem newD_sound {P : Program} {t : TypeId} {v : Value} {K : Value → Pr} {w : World} (h : newD P t v K w) :
    ∃ a w', (newVar t v).run P w = .ok a w' ∧ K (.pointer (some a)) w' := by
  have one : v.oneCell' = true → New #[v] t (fun a => K (.pointer (some a))) w → ∃ a w', (newVar t v).run P w = .ok a w' ∧ K (.pointer (some a)) w' := fun h1 h2 =>
    ⟨_, _, by simp [newVar, newRow, cells_one h1], h2⟩
  simp only [newD] at h
  split at h
  · split at h
    · exact ⟨_, _, by simp [newVar, newRow, Value.cells], h⟩
    · exact h.elim
  · split at h
    · exact one h.1 h.2
    · split at h
      · exact one ‹_› h
      · exact h.elim

def callD (P : Program) (c : Go.Call) (t : TypeId) (ρ : Operand → Value) (K : Value → Pr) (w : World) : Prop :=
  match resK P t with
  | some (tup, rs) => match c.callee with
    | .value f => CallV P (ρ f) (c.args.toList.map ρ) tup rs (fun s => K (encRes tup rs s)) w
    | .invoke r name => Inv P (ρ r) name (c.args.toList.map ρ) tup rs (fun s => K (encRes tup rs s)) w
    | .builtin _ => F w
  | none => F w

def heavyD (P : Program) (o : Oper) (ρ : Operand → Value) (K : Value → Pr) (w : World) : Prop :=
  match o.op with
  | .store t x y => match ρ x with
    | .pointer p => Nn p (fun a => StD P t a (ρ y) (K undef)) w
    | _ => F w
  | .alloc t => match zeroOf P t with
    | some z => newD P t z K w
    | none => F w
  | .box t x => newD P t (ρ x) K w
  | .buildSlice t n parts => buildSliceD P t n (evs ρ parts.toList) K w
  | .makeSlice t l c => makeSliceD P t (ρ l) (ρ c) K w
  | .makeMap _ r => match r with
    | none => NewObj (.map #[] 0) (fun r => K (.map (some r))) w
    | some _ => F w
  | .convert src dst x => match ρ x with
    | .string s => match P.underlying src with
      | some _ => match P.underlying dst with
        | some (.slice e) => match P.underlying e with
          | some (.int .u8) => StoB e s (fun r => K (.slice r.p r.len r.cap)) w
          | _ => F w
        | _ => F w
      | none => F w
    | .slice p l c => match decide (src = dst) with
      | true => match P.underlying src with
        | some (.slice e) => match P.underlying e with
          | some (.int .u8) => MkS p (K (.slice p l c)) w
          | _ => F w
        | _ => F w
      | false => F w
    | _ => F w
  | .mapUpdate t m k v => mapSetD P t (ρ m) (ρ k) (ρ v) (K undef) w
  | .insert t m k v => mapSetD P t (ρ m) (ρ k) (ρ v) (K undef) w
  | .mapEntry t m k => match P.underlying t with
    | some (.map kt et) => match plainKey P kt with
      | some d => match ρ m with
        | .map r => match zeroOf P et with
          | some z => MEnt d r (ρ k) z (fun v b => K (.tuple #[v, b])) w
          | none => F w
        | _ => F w
      | none => F w
    | _ => F w
  | .entryStore _ m st x => match ρ m with
    | .map r => MPut r (ρ st) (ρ x) (K undef) w
    | _ => F w
  | .range t x => match P.underlying t with
    | some (.map _ _) => match ρ x with
      | .map m => RgM m (fun a => K (.pointer (some a))) w
      | _ => F w
    | _ => F w
  | .next x isS => match isS with
    | false => match ρ x with
      | .pointer (some a) => NxM a (fun k v => K (.tuple #[.bool true, k, v])) (K (.tuple #[.bool false])) w
      | _ => F w
    | true => F w
  | .typeAssert x _ t ok => match ok with
    | false => match P.underlying t with
      | some (.interface _) => F w
      | some _ => TaK t (ρ x) (fun y => tyD P t y K) w
      | none => F w
    | true => F w
  | .call c => match c.callee with
    | .builtin b => match b with
      | .append => match c.argTypes.toList with
        | [st, xt] => match c.args.toList with
          | [s, x] => appD P st xt (ρ s) (ρ x) K w
          | _ => F w
        | _ => F w
      | .copy => match c.argTypes.toList with
        | [dt, st] => match c.args.toList with
          | [d, x] => copyD P dt st (ρ d) (ρ x) K w
          | _ => F w
        | _ => F w
      | .clear => match c.argTypes.toList with
        | [t] => match c.args.toList with
          | [x] => match P.underlying t with
            | some (.slice e) => match zeroOf P e with
              | some z => match ρ x with
                | .slice p l c => ClrS z.cells ⟨p, l, c⟩ (K (.tuple #[])) w
                | _ => F w
              | none => F w
            | some (.map _ _) => match ρ x with
              | .map m => ClrM m (K (.tuple #[])) w
              | _ => F w
            | _ => F w
          | _ => F w
        | _ => F w
      | .delete => match c.argTypes.toList with
        | [t, kt] => match c.args.toList with
          | [m, k] => match P.underlying t with
            | some (.map kt' _) => match plainKey P kt' with
              | some d => match decide (kt = kt') with
                | true => match ρ m with
                  | .map r => MDel d r (ρ k) (K (.tuple #[])) w
                  | _ => F w
                | false => F w
              | none => F w
            | _ => F w
          | _ => F w
        | _ => F w
      | _ => F w
    | _ => callD P c o.type ρ K w
  | _ => F w

theorem callD_sound {P : Program} {o : Oper} {c : Go.Call} (ho : o.op = .call c) {ρ : Operand → Value} {K : Value → Pr} {w : World} (h : callD P c o.type ρ K w) : Does P o ρ K w := by
  simp only [callD] at h
  have hargs : ∀ (xs : Array Operand), (xs.map ρ) = (xs.toList.map ρ).toArray := fun xs => Array.toList_inj.1 (by simp)
  have go : ∀ {f : FuncId} {args : Array Value} {tup : Bool} {rs : List RK}, (execOp ρ o).run P w = .ok (.enter f args) w → Calls P f args w (fun | .returned v, w' => ∃ s, v = encRes tup rs s ∧ K (encRes tup rs s) w' | _, _ => False) → Does P o ρ K w := by
    intro f args tup rs he hc
    refine does_enter he (hc.mono fun e w' h => ?_)
    cases e with
    | returned v => obtain ⟨s, rfl, h⟩ := h; exact h
    | panicked c => exact h
    | outgrown => exact h
  split at h
  · rename_i tup rs hr
    split at h
    · rename_i f hf
      unfold CallV at h
      split at h
      · rename_i fn first cap hv
        split at h
        · rename_i g
          split at h
          · refine go (tup := tup) (rs := rs) ?_ h.2
            unfold execOp
            rw [ho]
            simp only [resolve, hf, hv, Deferred.ofValue, Sem.run_bind, Sem.run_pure, Result.andThen_ok, invoke, run_callFunc h.1, hargs]
            congr 2
            apply Array.toList_inj.1
            simp
          · obtain ⟨s, w', h1, h2⟩ := h
            refine does_value (v := encRes tup rs s) (w' := w') ?_ h2
            unfold execOp
            rw [ho]
            simp only [resolve, hf, hv, Deferred.ofValue, Sem.run_bind, Sem.run_pure, Result.andThen_ok, invoke, hargs]
            rw [show (first ++ (c.args.toList.map ρ).toArray ++ cap) = (first.toList ++ c.args.toList.map ρ ++ cap.toList).toArray from Array.toList_inj.1 (by simp)]
            exact h1
        · rename_i l
          obtain ⟨r, h1, h2, h3⟩ := h
          have hrun : (execOp ρ o).run P w = .ok (.round l r.fn ((r.params.zip ((first.toList ++ c.args.toList.map ρ).toArray)).foldl (fun tmps (t, a) => tmps.setIfInBounds t a) r.tmps) r.assign r.body) w := by
            unfold execOp
            rw [ho]
            simp only [resolve, hf, hv, Deferred.ofValue, Sem.run_bind, Sem.run_pure, Result.andThen_ok, invoke, hargs]
            rw [show (first ++ (c.args.toList.map ρ).toArray) = (first.toList ++ c.args.toList.map ρ).toArray from Array.toList_inj.1 (by simp)]
            exact run_yield h1 (by simpa using h2)
          refine does_round hrun (h3.mono fun e w' h => ?_)
          cases e with
          | returned v => obtain ⟨s, rfl, h⟩ := h; exact h
          | panicked c => exact h
          | outgrown => exact h
        · exact h.elim
      · exact h.elim
    · rename_i r name hf
      unfold Inv at h
      split at h
      · rename_i t x hv
        split at h
        · rename_i f hm
          refine go (tup := tup) (rs := rs) ?_ h.2
          unfold execOp
          rw [ho]
          have hnum : P.types.size + Made.depth = (P.types.size + Made.depth - 1) + 1 := by have : 0 < Made.depth := by decide
                                                                                            omega
          simp only [resolve, hf, hv, Sem.run_bind, Sem.run_pure, Result.andThen_ok, invoke, hargs]
          simp only [List.getElem?_toArray, callMethod, Array.getElem?_append, Sem.run_bind, run_program, Result.andThen_ok]
          simp only [List.size_toArray, List.length_cons, List.length_nil, Nat.zero_add, Nat.lt_one_iff, if_true, List.getElem?_cons_zero, Sem.run_bind, run_program, Result.andThen_ok]
          rw [hnum, run_method hm]
          simp only [Result.andThen_ok]
          rw [run_callFunc h.1]
          congr 2
          apply Array.toList_inj.1
          simp
          rw [List.take_of_length_le (by simp)]
        · exact h.elim
      · exact h.elim
    · exact h.elim
  · exact h.elim

theorem heavyD_sound {P : Program} {o : Oper} {ρ : Operand → Value} {K : Value → Pr} {w : World} (h : heavyD P o ρ K w) : Does P o ρ K w := by
  have lift : ∀ {s : Sem Value} (he : execOp ρ o = (do pure (.value (← s)))), (∃ v w', s.run P w = .ok v w' ∧ K v w') → Does P o ρ K w := by
    intro s he ⟨v, w', hv, hk⟩
    exact does_value (by rw [he]; simp [hv]) hk
  have liftU : ∀ {s : Sem Unit} (he : execOp ρ o = (do s; pure .skip)), (∃ w', s.run P w = .ok () w' ∧ K undef w') → Does P o ρ K w := by
    intro s he ⟨w', hv, hk⟩
    exact does_skip (by rw [he]; simp [hv]) hk
  unfold heavyD at h
  split at h
  · rename_i t x y ho
    split at h
    · rename_i p ha
      cases p with
      | none => exact h.elim
      | some a =>
      obtain ⟨w', h1, h2⟩ := StD_sound h
      exact liftU (s := Instr.storeAt t (ρ x) (ρ y)) (by unfold execOp; rw [ho]) ⟨w', by simp [Instr.storeAt, ha, Instr.sureAddr, h1], h2⟩
    · exact h.elim
  · rename_i t ho
    split at h
    · rename_i z hz
      obtain ⟨a, w', h1, h2⟩ := newD_sound h
      exact lift (s := Instr.alloc t true (.tuple #[])) (by unfold execOp; rw [ho]) ⟨_, w', by simp [Instr.alloc, run_zeroOf hz, h1], h2⟩
    · exact h.elim
  · rename_i t x ho
    obtain ⟨a, w', h1, h2⟩ := newD_sound h
    exact lift (s := Instr.box t (ρ x)) (by unfold execOp; rw [ho]) ⟨_, w', by simp [Instr.box, h1], h2⟩
  · rename_i t n parts ho
    rw [← evs_eq] at h
    exact lift (by unfold execOp; rw [ho]) (buildSliceD_sound h)
  · rename_i t l c ho
    exact lift (by unfold execOp; rw [ho]) (makeSliceD_sound h)
  · rename_i t r ho
    split at h
    · exact lift (s := Instr.makeMap t none) (by unfold execOp; rw [ho]; rfl) ⟨_, _, by simp [Instr.makeMap], h⟩
    · exact h.elim
  · rename_i src dst x ho
    split at h
    · rename_i s hx
      split at h
      · rename_i u hs
        split at h
        · rename_i e hd
          split at h
          · rename_i he
            obtain ⟨r, w', h1, h2⟩ := run_stringToBytes hs hd he h
            exact lift (by unfold execOp; rw [ho]) ⟨_, w', by rw [hx]; exact h1, h2⟩
          · exact h.elim
        · exact h.elim
      · exact h.elim
    · rename_i p l c hx
      split at h
      · rename_i hsd
        have hsd' : src = dst := by simpa using hsd
        subst hsd'
        split at h
        · rename_i e hs
          split at h
          · rename_i he
            obtain ⟨w', h1, h2⟩ := MkS_sound (P := P) hs he h
            exact lift (by unfold execOp; rw [ho]) ⟨_, w', by rw [hx]; exact h1, h2⟩
          · exact h.elim
        · exact h.elim
      · exact h.elim
    · exact h.elim
  · rename_i t m k v ho
    simp only [mapSetD] at h
    split at h
    · rename_i kt et hu
      split at h
      · rename_i d hd
        split at h
        · rename_i r hr
          obtain ⟨w', h1, h2⟩ := MSet_sound hu hd h
          exact liftU (s := Instr.mapUpdate t (ρ m) (ρ k) (ρ v)) (by unfold execOp; rw [ho]) ⟨w', by rw [hr]; exact h1, h2⟩
        · exact h.elim
      · exact h.elim
    · exact h.elim
  · rename_i t m k v ho
    simp only [mapSetD] at h
    split at h
    · rename_i kt et hu
      split at h
      · rename_i d hd
        split at h
        · rename_i r hr
          obtain ⟨w', h1, h2⟩ := MSet_sound hu hd h
          exact liftU (s := Instr.mapUpdate t (ρ m) (ρ k) (ρ v)) (by unfold execOp; rw [ho]) ⟨w', by rw [hr]; exact h1, h2⟩
        · exact h.elim
      · exact h.elim
    · exact h.elim
  · rename_i t m k ho
    split at h
    · rename_i kt et hu
      split at h
      · rename_i d hd
        split at h
        · rename_i r hr
          split at h
          · rename_i z hz
            obtain ⟨v, b, w', h1, h2⟩ := MEnt_sound hu hd hz h
            exact lift (by unfold execOp; rw [ho]) ⟨_, w', by rw [hr]; exact h1, h2⟩
          · exact h.elim
        · exact h.elim
      · exact h.elim
    · exact h.elim
  · rename_i t m st x ho
    split at h
    · rename_i r hr
      obtain ⟨w', h1, h2⟩ := MPut_sound (t := t) h
      exact liftU (s := Instr.entryStore t (ρ m) (ρ st) (ρ x)) (by unfold execOp; rw [ho]) ⟨w', by rw [hr]; exact h1, h2⟩
    · exact h.elim
  · rename_i t x ho
    split at h
    · rename_i kt et hu
      split at h
      · rename_i m hm
        obtain ⟨a, w', h1, h2⟩ := RgM_sound hu h
        exact lift (by unfold execOp; rw [ho]) ⟨_, w', by rw [hm]; exact h1, h2⟩
      · exact h.elim
    · exact h.elim
  · rename_i x isS ho
    split at h
    · split at h
      · rename_i a ha
        obtain ⟨v, w', h1, h2⟩ := NxM_sound (P := P) (t := o.type) h
        refine lift (by unfold execOp; rw [ho]) ⟨v, w', by rw [ha]; exact h1, ?_⟩
        rcases h2 with ⟨k, y, rfl, h2⟩ | ⟨rfl, h2⟩
        · exact h2
        · exact h2
      · exact h.elim
    · exact h.elim
  · rename_i x xt t ok ho
    split at h
    · split at h
      · exact h.elim
      · rename_i d hni hu
        obtain ⟨y, hy, h⟩ := h
        refine lift (s := Instr.typeAssert (ρ x) xt t false) (by unfold execOp; rw [ho]) ⟨y, w, ?_, tyD_elim h⟩
        simp only [Instr.typeAssert, Sem.run_bind, run_underlying hu, Result.andThen_ok, hy]
        cases d <;> first
          | exact absurd rfl (hni _)
          | simp
      · exact h.elim
    · exact h.elim
  · rename_i c ho
    split at h
    · rename_i b hb
      split at h
      · split at h
        · rename_i st xt ht
          split at h
          · rename_i s x hx
            have e1 : c.argTypes = #[st, xt] := Array.toList_inj.1 (by simpa using ht)
            have e2 : c.args = #[s, x] := Array.toList_inj.1 (by simpa using hx)
            exact lift (execOp_builtin ho hb (s := Builtin.append_ #[st, xt] o.type #[ρ s, ρ x]) (by rw [e1, e2]; simp [builtin])) (appD_sound _ h)
          · exact h.elim
        · exact h.elim
      · split at h
        · rename_i st xt ht
          split at h
          · rename_i s x hx
            have e1 : c.argTypes = #[st, xt] := Array.toList_inj.1 (by simpa using ht)
            have e2 : c.args = #[s, x] := Array.toList_inj.1 (by simpa using hx)
            exact lift (execOp_builtin ho hb (s := Builtin.copy_ #[st, xt] o.type #[ρ s, ρ x]) (by rw [e1, e2]; simp [builtin])) (copyD_sound _ h)
          · exact h.elim
        · exact h.elim
      · split at h
        · rename_i t ht
          split at h
          · rename_i x hx
            have e1 : c.argTypes = #[t] := Array.toList_inj.1 (by simpa using ht)
            have e2 : c.args = #[x] := Array.toList_inj.1 (by simpa using hx)
            split at h
            · rename_i e hu
              split at h
              · rename_i z hz
                split at h
                · rename_i p l cc hxs
                  obtain ⟨w', h1, h2⟩ := ClrS_sound (P := P) hu hz o.type h
                  exact lift (execOp_builtin ho hb (s := Builtin.clear_ #[t] o.type #[ρ x]) (by rw [e1, e2]; simp [builtin])) ⟨_, w', by rw [hxs]; exact h1, h2⟩
                · exact h.elim
              · exact h.elim
            · rename_i kt et hu
              split at h
              · rename_i m hxs
                obtain ⟨w', h1, h2⟩ := ClrM_sound (P := P) hu o.type h
                exact lift (execOp_builtin ho hb (s := Builtin.clear_ #[t] o.type #[ρ x]) (by rw [e1, e2]; simp [builtin])) ⟨_, w', by rw [hxs]; exact h1, h2⟩
              · exact h.elim
            · exact h.elim
          · exact h.elim
        · exact h.elim
      · split at h
        · rename_i st xt ht
          split at h
          · rename_i s x hx
            have e1 : c.argTypes = #[st, xt] := Array.toList_inj.1 (by simpa using ht)
            have e2 : c.args = #[s, x] := Array.toList_inj.1 (by simpa using hx)
            split at h
            · rename_i kt' et hu
              split at h
              · rename_i d hd
                split at h
                · rename_i hk
                  have hk' : xt = kt' := by simpa using hk
                  subst hk'
                  split at h
                  · rename_i r hr
                    obtain ⟨w', h1, h2⟩ := MDel_sound (P := P) hu hd #[] o.type h
                    exact lift (execOp_builtin ho hb (s := Builtin.delete_ #[st, xt] o.type #[ρ s, ρ x]) (by rw [e1, e2]; simp [builtin])) ⟨_, w', by rw [hr]; exact h1, h2⟩
                  · exact h.elim
                · exact h.elim
              · exact h.elim
            · exact h.elim
          · exact h.elim
        · exact h.elim
      · exact h.elim
    · exact callD_sound ho h
  · exact h.elim

/-! ### every operation -/
inductive Cls where
  | pure | read | heavy

def cls (P : Program) (o : Oper) : Cls :=
  match o.op with
  | .move _ | .assign _ | .pick _ _ _ | .nilCheck _ | .binOp _ _ _ _ _ | .unOp _ _ _ | .makeInterface _ _ | .makeFunc _ _ _ | .build _ _ | .slice _ _ _ _ _ | .field _ _ _ | .fieldAddr _ _ _
  | .indexAddr _ _ _ | .index _ _ _ | .extract _ _ | .sliceToArrayPointer _ _ => .pure
  | .load _ _ | .lookup _ _ _ _ | .entry _ => .read
  | .convert src dst _ => match P.underlying dst with
    | some (.slice _) => .heavy
    | some .string => match P.underlying src with
      | some (.slice _) => .read
      | _ => .pure
    | _ => .pure
  | .call c => match c.callee with
    | .builtin b => match b with
      | .len => match c.argTypes.toList with
        | [t] => match P.underlying t with
          | some (.map _ _) => .read
          | _ => .pure
        | _ => .pure
      | .cap | .min | .max => .pure
      | _ => .heavy
    | _ => .heavy
  | _ => .heavy

def opD (P : Program) (o : Oper) (ρ : Operand → Value) (K : Value → Pr) (w : World) : Prop :=
  match cls P o with
  | .pure => pureD P o ρ K w
  | .read => readD P o ρ K w
  | .heavy => heavyD P o ρ K w

theorem opD_sound {P : Program} {o : Oper} {ρ : Operand → Value} {K : Value → Pr} {w : World} (h : opD P o ρ K w) : Does P o ρ K w := by
  unfold opD at h
  split at h
  · exact (pureD_sound h).q.does
  · exact (readD_sound h).does
  · exact heavyD_sound h

theorem opD_nodefer {P : Program} {o : Oper} {ρ : Operand → Value} {K : Value → Pr} {w : World} (h : opD P o ρ K w) : ∀ c, o.op ≠ .defer c := by
  intro c hc
  simp only [opD, cls, heavyD, hc] at h
  exact h

end Go.Sx
