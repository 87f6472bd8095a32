/-
  A slice of bytes as an argument, with its length's bound; rows with a property.
-/
import Derived.Test.YtmppjgddemlmdaaSxU
import Derived.SizedLaws
set_option linter.unusedSimpArgs false
set_option linter.unusedVariables false
namespace Go.Sx
open Go Go.ChangeShapes Go.WideShapes Go.ChangeAt Go.RowKit

theorem open_bytes {H : Type} {enc : TypeId × Value → H} {P : Program} {W : World} {r : Reach} {b0 : Nat} {t e : TypeId} {v : Value} {d : DataW H} {ps : List MemPlace} (ht : P.underlying t = some (.slice e)) (he : P.underlying e = some (.int .u8)) (hc : P.cellsOf e = 1)
    (hval : Value.okWide P W r b0 t v) (h : DataW.Trod enc P W 0 (fun _ => true) true t v d ps) :
    ∃ (s : Sl) (bs : List UInt8), v = .slice s.p s.len s.cap ∧ RdB s bs W ∧ s.len ≤ maxLen ∧ (s.len = 0 ∨ ∃ elems spare, d = .slice elems spare ∧ elems.length = s.len) := by
  obtain ⟨a, len, cap, rfl⟩ := okWide_slice ht hval
  obtain ⟨n, hn⟩ := h
  simp only [Value.cells, List.toList_toArray] at hn
  rcases open_ints ht he hc hn with ⟨h1, _⟩ | ⟨a', len', cap', zs, h1, _, hl, hm, hzs, hx, hcell, hwf⟩
  · simp at h1
    obtain ⟨rfl, rfl, rfl⟩ := h1
    exact ⟨⟨none, 0, 0⟩, [], rfl, ⟨rfl, fun j v hj => by simp at hj⟩, by simp, .inl rfl⟩
  · simp at h1
    obtain ⟨rfl, rfl, rfl⟩ := h1
    simp only [if_true] at hzs
    rw [Prod.mk.injEq] at hx
    refine ⟨⟨some a', len, cap⟩, (zs.take len).map fun z => UInt8.ofNat z.toNat, rfl, ⟨by simp; omega, fun j b hj => ⟨a', rfl, ?_⟩⟩, by simp only; omega, .inr ⟨_, _, hx.1, by simp [lits]; omega⟩⟩
    rw [List.getElem?_map, Option.map_eq_some_iff] at hj
    obtain ⟨z, hz, rfl⟩ := hj
    have hj' := (List.getElem?_eq_some_iff.1 hz).1
    rw [List.length_take] at hj'
    rw [List.getElem?_take, if_pos (by omega)] at hz
    rw [hcell j (by omega), List.getD, hz]
    have hw := hwf z (List.mem_of_getElem? hz)
    simp only [Lit.wf, Bool.and_eq_true, decide_eq_true_eq, IntKind.min, IntKind.max, IntKind.signed, IntKind.bits] at hw
    simp at hw
    simp only [Option.getD_some]
    congr 2
    simp
    omega

theorem rows_of' {α : Type} {enc : α → List Value} {Q : α → Prop} : ∀ {rows : List (List Value)}, (∀ row ∈ rows, ∃ x, row = enc x ∧ Q x) → ∃ xs : List α, rows.flatten = xs.flatMap enc ∧ rows.length = xs.length ∧ ∀ x ∈ xs, Q x
  | [], _ => ⟨[], rfl, rfl, by simp⟩
  | row :: rows, h => by
    obtain ⟨x, rfl, hx⟩ := h row List.mem_cons_self
    obtain ⟨xs, h1, h2, h3⟩ := rows_of' fun r hr => h r (List.mem_cons_of_mem _ hr)
    exact ⟨x :: xs, by simp [h1], by simp [h2], fun y hy => by rcases List.mem_cons.1 hy with rfl | hy; exact hx; exact h3 y hy⟩

end Go.Sx
