/-
  From the words to the row: a law that returns true and keeps what was there.
-/
import Derived.Test.YtmppjgddemlmdaaSxP
import Derived.WalkKit
import Derived.ProofKit
import Derived.OpenShut
import Derived.JoinedCond
import Derived.WideKeyArgs
import Derived.SliceStrings
set_option linter.unusedSimpArgs false
set_option linter.unusedVariables false
namespace Go.Sx
open Go Go.ChangeShapes Go.WideShapes Go.ChangeAt Go.RowKit

theorem Keeps.below {w w' : World} (h : Keeps [] w w') : Below w.heap.size w w' := ⟨h.os, h.tape, h.output, h.size, fun k hk => h.get k hk (by simp)⟩

section
variable {H : Type} {enc : TypeId × Value → H} {P : Program}

theorem trodAll_stays {W W' : World} {sp' : Nat → Bool} (hl : laidOutB P = true) : ∀ {ts : List TypeId} {vs : List Value} {ds : List (DataW H)} {ps : List MemPlace},
    (ts.all fun t => P.readableRec t && decide (t < P.types.size)) = true → DataW.TrodAll enc P W 0 (fun _ => true) true ts vs ds ps → (∀ p ∈ ps, W.sameAt W' p) → (∀ p ∈ ps, sp' p.block = true) → DataW.TrodAll enc P W' 0 sp' true ts vs ds ps
  | [], _, _, _, _, h, _, _ => by
    obtain ⟨rfl, rfl, rfl⟩ := trodAll_nil h
    exact trodAll_mk0
  | t :: ts, _, _, _, hp, h, hs, hb => by
    obtain ⟨v, vs1, d, ds1, a, b, rfl, rfl, rfl, h1, h2⟩ := trodAll_cons h
    simp only [List.all_cons, Bool.and_eq_true, decide_eq_true_eq] at hp
    exact ⟨a, b, WideElems.Trod_stays hl hp.1.1 hp.1.2 h1 (fun p hp' => hs p (by simp [hp'])) (fun p hp' => hb p (by simp [hp'])),
      trodAll_stays hl (by simpa using hp.2) h2 (fun p hp' => hs p (by simp [hp'])) (fun p hp' => hb p (by simp [hp'])), rfl⟩

/-- The law's end: true, and what was there is as it was. -/
theorem law_post {f : Func} {s : ChangeSpec} {apart fresh handsOn : Bool} {W W' : World} {args : Array Value} {ds gs : List (DataW H)} {before : List MemPlace} {tb : TypeId}
    (hW : DataW.Whole enc P f.params.toList s.vars apart W args.toList ds gs before) (hv : s.vars = []) (hs : s.fn H (ds ++ gs) = { results := [.lit (.bool true)], args := ds })
    (hr : f.resultTypes = #[tb]) (htb : P.underlying tb = some .bool) (hl : laidOutB P = true) (hp : (f.params.toList.all fun t => P.readableRec t && decide (t < P.types.size)) = true) (hk : Keeps [] W W') :
    s.post enc P f apart fresh handsOn false W args (.bool true) W' := by
  have hlt := hW.lt
  have hW' := hW
  obtain ⟨p, q, hA, hV, rfl, hfz, hnd⟩ := hW
  rw [hv] at hV
  obtain ⟨rfl, rfl⟩ := trodVars_none hV
  rw [List.append_nil] at hlt
  refine ⟨ds, [], p ++ [], [], p, [], hW', ?_, ?_, ?_, hk.below.frame _, by simp⟩
  · rw [hs, hr]
    exact trodAll_cons_mk (shut_bool htb _) trodAll_mk0
  · rw [hs]
    exact trodAll_stays hl hp hA (fun x hx => hk.below.same (hlt x hx)) (fun x hx => by simpa using hlt x hx)
  · rw [hs, hv]
    rfl

/-- A law's contract, of its words' end. -/
theorem law_calls {f : Func} {i : FuncId} {s : ChangeSpec} {apart fresh handsOn : Bool} {W : World} {args : List Value} {ds gs : List (DataW H)} {before : List MemPlace} {tb : TypeId}
    (hW : DataW.Whole enc P f.params.toList s.vars apart W args ds gs before) (hv : s.vars = []) (hs : s.fn H (ds ++ gs) = { results := [.lit (.bool true)], args := ds })
    (hr : f.resultTypes = #[tb]) (htb : P.underlying tb = some .bool) (hl : laidOutB P = true) (hp : (f.params.toList.all fun t => P.readableRec t && decide (t < P.types.size)) = true)
    (h : Cl P i args false [.sc .b] (fun r w' => r.1 = true ∧ Keeps [] W w') W) :
    Calls P i args.toArray W fun e W' => ∃ v, e = .returned v ∧ s.post enc P f apart fresh handsOn false W args.toArray v W' := by
  refine h.2.mono fun e W' he => ?_
  cases e with
  | returned v =>
    obtain ⟨r, rfl, h1, hk⟩ := he
    refine ⟨_, rfl, ?_⟩
    obtain ⟨r1, r2⟩ := r
    simp only at h1
    subst h1
    exact law_post (args := args.toArray) (by simpa using hW) hv hs hr htb hl hp hk
  | panicked c => exact he.elim
  | outgrown => exact he.elim
end

/-- A slice of strings, as an argument: its cells. -/
theorem open_texts {H : Type} {enc : TypeId × Value → H} {P : Program} {W : World} {r : Reach} {b0 : Nat} {t e : TypeId} {v : Value} {d : DataW H} {ps : List MemPlace} (ht : P.underlying t = some (.slice e)) (he : P.underlying e = some .string) (hc : P.cellsOf e = 1)
    (hval : Value.okWide P W r b0 t v) (h : DataW.Trod enc P W 0 (fun _ => true) true t v d ps) :
    ∃ (s : Sl) (ss : List ByteArray), v = .slice s.p s.len s.cap ∧ RdC s.p s.len (ss.map Value.string) W ∧ (∀ x ∈ ss, x.size ≤ maxLen) ∧ s.len ≤ maxLen := by
  obtain ⟨a, len, cap, rfl⟩ := okWide_slice ht hval
  obtain ⟨n, hn⟩ := h
  simp only [Value.cells, List.toList_toArray] at hn
  rcases open_strings ht he hc hn with ⟨h1, _⟩ | ⟨a', len', cap', ss, h1, _, hl, hm, hss, _, hcell, hsz⟩
  · simp at h1
    obtain ⟨rfl, rfl, rfl⟩ := h1
    exact ⟨⟨none, 0, 0⟩, [], rfl, ⟨rfl, fun j v hj => by simp at hj⟩, by simp, by simp⟩
  · simp at h1
    obtain ⟨rfl, rfl, rfl⟩ := h1
    simp only [if_true] at hss
    refine ⟨⟨some a', len, cap⟩, ss.take len, rfl, ⟨by simp; omega, fun j v hj => ⟨a', rfl, ?_⟩⟩, fun x hx => hsz x (List.mem_of_mem_take hx), by simp only; omega⟩
    rw [List.getElem?_map, Option.map_eq_some_iff] at hj
    obtain ⟨x, hx, rfl⟩ := hj
    have hj' := (List.getElem?_eq_some_iff.1 hx).1
    rw [List.length_take] at hj'
    rw [List.getElem?_take, if_pos (by omega)] at hx
    rw [hcell j (by omega), List.getD, hx]
    rfl

end Go.Sx
