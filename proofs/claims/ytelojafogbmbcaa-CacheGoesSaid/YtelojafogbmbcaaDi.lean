/- Contracts of package cache's functions: Dirty. -/
import Derived.Test.YtelojafogbmbcaaFl
import Derived.Test.YtelojafogbmbcaaSrt
set_option linter.unusedVariables false
set_option linter.unusedSimpArgs false
namespace Go.Proofs.Ytelojafogbmbcaa
open Go Go.Sx
variable {B : BkI Try.prog}

def dirty1 : Option Pg → Option Int
  | some p => if p.dirty then some p.id else none
  | none => none
def dirtyIds (ps : List (Option Pg)) : List Int := ps.filterMap dirty1

theorem cI_one (l : List Int) : ∀ v ∈ cI l, v.oneCell' = true := by simp [cI, Value.oneCell']

theorem Dirty_ok {N : Nat} {w : World} {c : Nat} {F : Nat → Prop} {ps : List (Option Pg)} {hand : Nat} (h : CaAt B N w c F ps hand) (h12 : (dirtyIds ps).length ≤ 12) :
    Cl Try.prog i_cache_Cache_Dirty [.pointer (some ⟨c, 0, none⟩)] false [.sc .sl]
      (fun r w' => ∃ ds : List Int, ds.Perm (dirtyIds ps) ∧ Ordd ds ds.length ∧ SlC w' r.1 1 (cI ds) ∧ Keeps [] w w' ∧ ∀ x ∈ blk r.1, w.heap.size ≤ x) w := by
  refine Cl_gen fun R hR => ?_
  apply cache_Cache_Dirty_call
  unfold cache_Cache_Dirty
  obtain ⟨τ, sl, m, pl, h1, h2, hps, hF⟩ := h
  obtain ⟨t, hbox⟩ := h1.box
  simp only [sx, sxl, hbox, Nat.zero_add]
  have hslen := h1.slen
  have hln := h1.ln
  have hlen : ps.length = pl.length := by rw [← hps, pgs_length]
  refine ⟨fun k st w' => ∃ (i : Nat) (r : Sl), st = (r, (i : Int), ()) ∧ i ≤ pl.length ∧ k = pl.length - i ∧ SlC w' r 1 (cI (dirtyIds (ps.take i))) ∧ Keeps [] w w' ∧ ∀ x ∈ blk r, w.heap.size ≤ x, ⟨pl.length, 0, ⟨none, 0, 0⟩, rfl, by omega, by omega, by simpa [dirtyIds, cI] using SlC.nil w 1, Keeps.refl _ _, by simp [blk]⟩, ?_⟩
  rintro k _ w1 ⟨i, r, rfl, hi, rfl, hs1, hk1, hb1⟩
  dsimp only
  rw [hslen]
  have hL := h1.keeps (G := fun _ => False) (hk1.toP (by simp)) (fun _ h => h.elim)
  by_cases hil : i < pl.length
  · rw [decide_eq_true (by omega)]
    simp only [sx]
    have hw : w64 ((i : Int) + 1) = ((i + 1 : Nat) : Int) := w64_nat (n := i + 1) (by omega)
    obtain ⟨o, ho⟩ : ∃ o, pl[i]? = some o := ⟨_, List.getElem?_eq_getElem (by omega)⟩
    have hgo : ps[i]? = some (o.map Slot.pg) := by rw [← hps]; simp [pgs, ho]
    have htk : dirtyIds (ps.take (i + 1)) = dirtyIds (ps.take i) ++ (dirty1 (o.map Slot.pg)).toList := by
      unfold dirtyIds
      rw [List.take_add_one, hgo, List.filterMap_append]
      simp only [Option.toList_some]
      cases hd : dirty1 (o.map Slot.pg) <;> simp [hd]
    refine Jp_of (fun st w' => ∃ r' : Sl, st = (r', ()) ∧ SlC w' r' 1 (cI (dirtyIds (ps.take (i + 1)))) ∧ Keeps [] w w' ∧ ∀ x ∈ blk r', w.heap.size ≤ x) ?_ ?_
    case refine_2 =>
      rintro _ w2 ⟨r', rfl, g1, g2, g3⟩
      exact ⟨pl.length - (i + 1), by omega, i + 1, r', by rw [hw], by omega, rfl, g1, g2, g3⟩
    intro J hJ
    refine hL.rd ho ?_
    cases o with
    | none =>
      simp only [Option.map_none, Option.isNone_none, Bool.not_true, Jp, sx]
      exact hJ _ _ ⟨r, rfl, by rw [htk]; simpa [dirty1] using hs1, hk1, hb1⟩
    | some x =>
      obtain ⟨t', hsb⟩ := hL.sb i x ho
      simp only [Option.map_some, Option.isNone_some, Bool.not_false, Jp, sx, sxl, hsb, pgCells, Nat.zero_add, Nat.reduceAdd]
      refine Br_of (fun hd => ?_) (fun hd => ?_)
      · simp only [sx, sxl, hsb, pgCells, Nat.zero_add, Nat.reduceAdd]
        generalize hw2 : w1.alloc _ = w2
        have hk2 : Keeps [] w1 w2 := by rw [← hw2]; exact (Keeps.refl [] w1).alloc _
        have hrd : RdC (some ⟨w1.heap.size, 0, none⟩) (1 * 1) (cI [x.pg.id]) w2 := rdc_row (cs := cI [x.pg.id]) (t := 3) (fr := (0, 0)) (by rw [← hw2]; exact hp_alloc_new w1 _)
        have hrl := hs1.len
        have hle : (dirtyIds (ps.take i)).length ≤ 12 := by
          have h3 : (dirtyIds (ps.take i)).Sublist (dirtyIds ps) := (List.take_sublist i ps).filterMap _
          exact Nat.le_trans h3.length_le h12
        rw [cI_len] at hrl
        refine App_of (hs1.keeps hk2 (by simp)) hrd rfl (cI_one _) (by kernel_rfl) (by omega) (by omega) ?_
        intro r3 w3 hs3 hl3 hk3 hb3
        refine hJ _ _ ⟨r3, rfl, ?_, (hk1.trans hk2 (by simp)).trans hk3 (fun x hx => .inr (hb1 x hx)), fun y hy => ?_⟩
        · rw [htk]
          simp only [dirty1, Option.map_some, hd, if_true, Option.toList_some]
          unfold cI at hs3 ⊢
          rw [List.map_append]
          exact hs3
        · rcases hb3 y hy with h' | h'
          · exact hb1 y h'
          · have := hk1.size; have := hk2.size; omega
      · exact hJ _ _ ⟨r, rfl, by rw [htk]; simpa [dirty1, hd] using hs1, hk1, hb1⟩
  · rw [decide_eq_false (by omega)]
    simp only [sx]
    rw [List.take_of_length_le (by omega)] at hs1
    refine Cl.mono (Sort_small hs1 h12) ?_
    rintro _ w2 ⟨ds, g1, g2, g3, g4⟩
    refine hR _ _ ⟨ds, g1, by rw [g1.length_eq]; exact g2, g3, hk1.trans g4 (fun x hx => .inr (hb1 x hx)), hb1⟩

theorem CS.dirty {w0 w : World} {N c n : Nat} {L : List (Sl × List UInt8)} {Z : List (Nat × Obj)} {s : CSt B} (h : CS B w0 N c n L Z s w) (h12 : (dirtyIds s.ps).length ≤ 12) :
    Cl Try.prog i_cache_Cache_Dirty [.pointer (some ⟨c, 0, none⟩)] false [.sc .sl]
      (fun r w' => ∃ ds : List Int, ds.Perm (dirtyIds s.ps) ∧ Ordd ds ds.length ∧ SlC w' r.1 1 (cI ds) ∧ CS B w0 N c n L Z s w' ∧ Keeps [] w w' ∧ ∀ x ∈ blk r.1, w.heap.size ≤ x) w := by
  have h' := h
  obtain ⟨F, G, hx⟩ := h
  refine Cl.mono (Dirty_ok hx.ca h12) ?_
  rintro r w' ⟨ds, g1, g2, g3, g4, g5⟩
  exact ⟨ds, g1, g2, g3, h'.grow g4, g4, g5⟩

end Go.Proofs.Ytelojafogbmbcaa
