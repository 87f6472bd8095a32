/- Contracts of the reference's cache: back, free. -/
import Derived.Test.YtelojafogbmbcaaRf
set_option linter.unusedVariables false
set_option linter.unusedSimpArgs false
namespace Go.Proofs.Ytelojafogbmbcaa
open Go Go.Sx
variable {β : Nat}

theorem rback_none {w : World} {c : Nat} {sl : Sl} {ps : List (Option Pg)} {hand b N : Nat} (h : RcX w c sl ps hand b N) {i : Nat} (hi : ps[i]? = some none) :
    Cl Try.prog i_sumpterref10_Cache_back [.pointer (some ⟨c, 0, none⟩), .int .i64 (i : Int)] false [.sc (.i .i64)] (fun r w' => r.1 = 0 ∧ w = w') w := by
  apply sumpterref10_Cache_back_call
  unfold sumpterref10_Cache_back
  obtain ⟨t, hbox⟩ := h.box
  simp only [sx, sxl, hbox, Nat.zero_add]
  refine h.at hi fun pb po hp hbl hat => ?_
  have e0 := hat 0 (by omega)
  simp only [encP, sxl] at e0
  simp only [Jp, sx, sxl, e0, Bool.not_false]
  exact ⟨by trivial, by trivial⟩

theorem rback_ok {w : World} {c : Nat} {sl : Sl} {ps : List (Option Pg)} {hand b N : Nat} (h : RcX w c sl ps hand b N) {s : BS} {G : Nat → Prop} (hb : BkAt b w G s.σ) (hgc : ¬ G c) (hgs : ∀ x ∈ blk sl, ¬ G x) {i : Nat} {p : Pg} (hi : ps[i]? = some (some p)) {n : Nat} (hr : s.σ.rest (n + 2)) :
    Cl Try.prog i_sumpterref10_Cache_back [.pointer (some ⟨c, 0, none⟩), .int .i64 (i : Int)] false [.sc (.i .i64)]
      (fun r w' => ∃ G', r.1 = (mClean (refB β) s p).2 ∧ RcX w' c sl (if (mClean (refB β) s p).2 = 0 then ps.set i (some { p with dirty := false }) else ps) hand b N ∧ BkAt b w' G' (mClean (refB β) s p).1.σ ∧ (mClean (refB β) s p).1.σ.rest n ∧
        KeepsP (fun y => G y ∨ y ∈ blk sl) w w' ∧ Fr G G' w) w := by
  refine Cl_gen fun R hR => ?_
  apply sumpterref10_Cache_back_call
  unfold sumpterref10_Cache_back
  obtain ⟨t, hbox⟩ := h.box
  have hcl := hp_lt hbox
  have hsl := h.row.lt
  simp only [sx, sxl, hbox, Nat.zero_add]
  refine h.at hi fun pb po hp hbl hat => ?_
  have hpb : pb ∈ blk sl := by rw [hbl]; simp
  have hok := h.ok i p hi
  have e0 := hat 0 (by omega)
  have e5 := hat 5 (by omega)
  simp only [encP, sxl] at e0 e5
  refine Jp_of (fun s' w' => s' = (!p.dirty, ()) ∧ w = w') ?_ ?_
  · intro J hJ
    simp only [sx, sxl, e0, e5, Bool.not_true]
    exact hJ _ _ ⟨rfl, rfl⟩
  rintro _ _ ⟨rfl, rfl⟩
  have hself : p.dirty = false → ps.set i (some { p with dirty := false }) = ps := by
    intro hf
    have e : ({ p with dirty := false } : Pg) = p := by
      obtain ⟨id, pins, bytes, touched, dirty, lsn⟩ := p
      simp only at hf
      subst hf
      rfl
    rw [e]
    exact set_self hi
  cases hdt : p.dirty with
  | false =>
    simp only [Bool.not_false, sx]
    refine hR _ _ ?_
    simp only [mClean, hdt, if_true]
    rw [hself hdt]
    exact ⟨G, by trivial, h, hb, by unfold BSt.rest at *; omega, KeepsP.refl _ _, Fr.refl _ _⟩
  | true =>
    simp only [Bool.not_true, sx]
    have frG : ∀ {w1 : World} {G1 : Nat → Prop}, Fr G G1 w → KeepsP G w w1 → ¬ G1 c ∧ ∀ x ∈ blk sl, ¬ G1 x := fun hf hk => ⟨fun hg => by
      rcases hf c hg with h' | h'
      · exact hgc h'
      · omega, fun x hx hg => by
      rcases hf x hg with h' | h'
      · exact hgs x hx h'
      · have := hsl x hx; omega⟩
    -- the row as it lies in a world behind
    have hatw : ∀ {w1 : World}, KeepsP G w w1 → ∀ j, j < 7 → cellO w1.heap[pb]? (po + i * 7 + j) = (encP (some p))[j]? := fun hk j hj => by
      rw [hk.get pb (hsl pb hpb) (hgs pb hpb)]
      exact hat j hj
    refine Jp_of (fun _ w' => ∃ (f : BS × Int) (G1 : Nat → Prop), f = (if s.σ.log < p.lsn then (refB β).force s p.lsn else (s, 0)) ∧ f.2 = 0 ∧ BkAt b w' G1 f.1.σ ∧ f.1.σ.rest (n + 1) ∧ KeepsP G w w' ∧ Fr G G1 w) ?_ ?_
    · intro J hJ
      have e6 := hat 6 (by omega)
      simp only [encP, sxl] at e6
      simp only [sx, sxl, e6, hbox, Nat.zero_add, Nat.reduceAdd]
      have hbd : BkAt b w.drew G s.σ := hb.keeps (G := fun _ => False) ((KeepsP.refl _ w).step ((Keeps.refl [] w).drew) (by simp)) (fun _ _ h => h)
      refine Cl.mono (Safe_ok hbd) ?_
      rintro r _ ⟨hr1, rfl⟩
      simp only [sx, sxl, e6, hbox, Nat.zero_add, Nat.reduceAdd, hr1, true_and]
      refine Br_of (fun hc => ?_) (fun hc => ?_)
      · simp only [decide_eq_true_eq] at hc
        simp only [sx, sxl, e6, hbox, Nat.zero_add, Nat.reduceAdd]
        have hbd2 : BkAt b w.drew.drew G s.σ := hb.keeps (G := fun _ => False) ((KeepsP.refl _ w).step ((Keeps.refl [] w).drew.drew) (by simp)) (fun _ _ h => h)
        refine Cl.mono (Force_ok (n := n + 1) p.lsn hbd2 hr) ?_
        rintro r2 w2 ⟨G1, h1, h2, h3, h4, h5⟩
        rw [h1]
        have hk2 : KeepsP G w w2 := ((KeepsP.refl G w).step ((Keeps.refl [] w).drew.drew) (by simp)).same h4
        by_cases h0 : (s.σ.force p.lsn).2 = 0
        · rw [show ((s.σ.force p.lsn).2 != 0) = false from by simp [h0]]
          exact hJ _ _ ⟨_, G1, rfl, by rw [if_pos hc]; exact h0, by rw [if_pos hc]; exact h2, by rw [if_pos hc]; exact h3, hk2, h5⟩
        · rw [show ((s.σ.force p.lsn).2 != 0) = true from by simp [h0]]
          refine hR _ _ ?_
          have e : mClean (refB β) s p = (refB β).force s p.lsn := by
            have h0' : ¬ ((refB β).force s p.lsn).2 = 0 := h0
            have hc' : (refB β).safe s < p.lsn := hc
            simp [mClean, hdt, hc', h0']
          have h0' : ¬ ((refB β).force s p.lsn).2 = 0 := h0
          simp only [e, if_neg h0']
          exact ⟨G1, rfl, h.keepsP hk2 hgc hgs, h2, (show (s.σ.force p.lsn).1.rest n from by unfold BSt.rest at *; omega), hk2.mono (fun y hy => .inl (.inl hy)), h5⟩
      · simp only [decide_eq_false_iff_not] at hc
        exact hJ _ _ ⟨_, G, rfl, by rw [if_neg hc], by rw [if_neg hc]; exact hbd, by rw [if_neg hc]; show s.σ.rest (n + 1); unfold BSt.rest at *; omega, (KeepsP.refl G w).step ((Keeps.refl [] w).drew) (by simp), Fr.refl _ _⟩
    · rintro _ w1 ⟨f, G1, hf, hf0, hb1, hr1, hk1, hfr1⟩
      have hbox1 := hk1.at hbox hgc
      have e1 := hatw hk1 1 (by omega)
      have e3 := hatw hk1 3 (by omega)
      simp only [encP, sxl] at e1 e3
      simp only [sx, sxl, e1, e3, hbox1, Nat.zero_add, Nat.reduceAdd]
      refine StoB_own (w := w1.drew) ?_
      intro r2 w2 hs2 hk2' hfr2 hl2
      have hk2 : Keeps [] w1 w2 := ((Keeps.refl [] w1).drew).trans hk2' (by simp)
      have hkG2 : KeepsP G w w2 := hk1.step hk2 (by simp)
      have hbox2 := hkG2.at hbox hgc
      have e1' := hatw hkG2 1 (by omega)
      simp only [encP, sxl] at e1'
      have hb2 : BkAt b w2 G1 f.1.σ := hb1.keeps (G := fun _ => False) (hk2.toP (by simp)) (fun _ _ h => h)
      have hbl1 := hb1.bl
      simp only [sx, sxl, e1', hbox2, Nat.zero_add, Nat.reduceAdd, true_and]
      have htk : p.bytes.take 140737488355328 = p.bytes := List.take_of_length_le hok.len
      have hmc : mClean (refB β) s p = (refB β).save f.1 p.id p.bytes := by
        have hf' : f = (if (refB β).safe s < p.lsn then (refB β).force s p.lsn else (s, 0)) := hf
        unfold mClean
        rw [if_neg (by simp [hdt])]
        simp only [← hf', hf0, if_true]
        rfl
      have hsv : ((refB β).save f.1 p.id p.bytes).1.σ = (f.1.σ.save p.id p.bytes).1 ∧ ((refB β).save f.1 p.id p.bytes).2 = (f.1.σ.save p.id p.bytes).2 := by
        constructor
        · show (f.1.σ.save p.id (p.bytes.take 140737488355328)).1 = _
          rw [htk]
        · show (f.1.σ.save p.id (p.bytes.take 140737488355328)).2 = _
          rw [htk]
      have hs2' : SlC w2 r2 1 (cB p.bytes) := hs2
      refine Cl.mono (Save_ok (n := n) p.id r2 p.bytes hb2 hr1 hs2' hok.len (fun y hy hg => by have := hfr2 y hy; have := hbl1 y hg; have : w1.drew.heap.size = w1.heap.size := rfl; omega)) ?_
      rintro r3 w3 ⟨G3, h1, h2, h3, h4, h5⟩
      have hfr3 : Fr G G3 w := hfr1.trans (h5.trans (Fr.refl _ w2) (Nat.le_refl _)) hkG2.size
      have hk3 : KeepsP G w w3 := hkG2.trans h4 hfr1
      obtain ⟨g3c, g3s⟩ := frG hfr3 hk3
      rw [h1]
      rw [← hsv.1] at h2 h3
      by_cases h0 : (f.1.σ.save p.id p.bytes).2 = 0
      · rw [show ((f.1.σ.save p.id p.bytes).2 != 0) = false from by simp [h0]]
        simp only [sxr]
        have hX3 := h.keepsP hk3 hgc hgs
        have h0' : ((refB β).save f.1 p.id p.bytes).2 = 0 := hsv.2.trans h0
        refine hX3.row.put1 encP_len hp hi (some { p with dirty := false }) (j := 5) rfl (by omega) rfl rfl ?_
        intro w4 hrow4 hk4
        refine hR _ _ ?_
        simp only [hmc, if_pos h0']
        refine ⟨G3, by rw [h0'], hX3.set (fun q hq => by cases hq; exact ⟨hok.pins0, hok.pinsN, hok.len⟩) hrow4 (by rw [hbl]; exact hk4), h2.keeps (hk4.toP (F := fun y => y = pb) (by simp)) (fun y hy e => g3s pb hpb (e ▸ hy)), h3, (hk3.mono (G := fun y => G y ∨ y ∈ blk sl) (fun y hy => .inl (.inl hy))).step hk4 (fun y hy => .inl (.inr (by simp at hy; rw [hy]; exact hpb))), hfr3⟩
      · rw [show ((f.1.σ.save p.id p.bytes).2 != 0) = true from by simp [h0]]
        refine hR _ _ ?_
        have h0' : ¬ ((refB β).save f.1 p.id p.bytes).2 = 0 := fun h => h0 (hsv.2.symm.trans h)
        simp only [hmc, if_neg h0']
        exact ⟨G3, hsv.2.symm, h.keepsP hk3 hgc hgs, h2, h3, hk3.mono (fun y hy => .inl (.inl hy)), hfr3⟩

theorem RcX.setHand {w w' : World} {c : Nat} {sl : Sl} {ps : List (Option Pg)} {hand hand' b N : Nat} (h : RcX w c sl ps hand b N) (hk : Keeps [c] w w') (hb : ∃ t, w'.heap[c]? = some (.cells #[.slice sl.p sl.len sl.cap, .int .i64 hand', .pointer (some ⟨b, 0, none⟩)] t (0, 0))) (hh : hand' < ps.length) : RcX w' c sl ps hand' b N :=
  ⟨hb, h.row.keeps hk (fun x hx hm => by simp at hm; subst hm; exact h.cs hx), h.cs, h.ok, hh, h.ln⟩

def heldB : Option Pg → Bool
  | some p => decide (p.pins > 0)
  | none => true

/-- What free leaves behind. -/
def FreeP (β : Nat) (w : World) (c : Nat) (sl : Sl) (b N : Nat) (G : Nat → Prop) (n : Nat) (t : CSt (refB β) × Int × Int) (r : TR [.sc (.i .i64), .sc (.i .i64)]) (w' : World) : Prop :=
  ∃ G', r = (t.2.1, t.2.2, ()) ∧ RcX w' c sl t.1.ps t.1.hand b N ∧ BkAt b w' G' t.1.b.σ ∧ t.1.b.σ.rest n ∧ KeepsP (fun y => G y ∨ y = c ∨ y ∈ blk sl) w w' ∧ Fr G G' w ∧ (t.2.2 = 0 → ∃ i : Nat, t.2.1 = i ∧ t.1.ps[i]? = some none)

theorem rfree_ok {w : World} {c : Nat} {sl : Sl} {b N : Nat} {s : CSt (refB β)} (h : RcX w c sl s.ps s.hand b N) {G : Nat → Prop} (hb : BkAt b w G s.b.σ) (hgc : ¬ G c) (hgs : ∀ x ∈ blk sl, ¬ G x) {n : Nat} (hr : s.b.σ.rest (n + 2)) :
    Cl Try.prog i_sumpterref10_Cache_free [.pointer (some ⟨c, 0, none⟩)] true [.sc (.i .i64), .sc (.i .i64)] (FreeP β w c sl b N G n (mRoom (refB β) s)) w := by
  refine Cl_gen fun R hR => ?_
  apply sumpterref10_Cache_free_call
  unfold sumpterref10_Cache_free
  obtain ⟨t, hbox⟩ := h.box
  simp only [sx, sxl, hbox, Nat.zero_add]
  have hl := h.slen
  have hln := h.ln
  have hbl := hb.bl
  obtain ⟨T, hT⟩ : ∃ T, mRoom (refB β) s = T := ⟨_, rfl⟩
  rw [hT] at hR
  refine ⟨fun k st w' => ∃ i : Nat, st = ((0 : Int), (0 : Int), (s.ps.take i).all heldB, (i : Int), ()) ∧ i ≤ s.ps.length ∧ k = s.ps.length - i ∧ Keeps [] w w' ∧ ∀ j o, j < i → s.ps[j]? = some o → isNo o = false, ⟨s.ps.length, 0, rfl, by omega, by omega, Keeps.refl _ _, fun j o hj => by omega⟩, ?_⟩
  rintro _ _ w1 ⟨i, rfl, hi, rfl, hk1, hno⟩
  dsimp only
  rw [hl]
  have hX1 := h.grow hk1
  have hb1 : BkAt b w1 G s.b.σ := hb.keeps (G := fun _ => False) (hk1.toP (by simp)) (fun _ _ h => h)
  by_cases hil : i < s.ps.length
  · rw [decide_eq_true (by omega)]
    simp only [sx]
    obtain ⟨o, ho⟩ : ∃ o, s.ps[i]? = some o := ⟨_, List.getElem?_eq_getElem hil⟩
    have hw : w64 ((i : Int) + 1) = ((i + 1 : Nat) : Int) := w64_nat (n := i + 1) (by omega)
    have htk : ∀ f : Option Pg → Bool, (s.ps.take (i + 1)).all f = ((s.ps.take i).all f && f o) := fun f => by rw [List.take_add_one, ho, List.all_append]; simp
    refine Jp_of (fun st w' => st = ((0 : Int), (0 : Int), (s.ps.take (i + 1)).all heldB, ()) ∧ Keeps [] w w' ∧ isNo o = false) ?_ ?_
    case refine_2 =>
      rintro _ w2 ⟨rfl, hk2, hoo⟩
      refine ⟨s.ps.length - (i + 1), by omega, i + 1, by rw [hw], by omega, rfl, hk2, fun j o' hj ho' => ?_⟩
      rcases Nat.lt_or_ge j i with h' | h'
      · exact hno j o' h' ho'
      · have : j = i := by omega
        subst this
        rw [ho] at ho'
        cases ho'
        exact hoo
    intro J hJ
    refine hX1.at ho fun pb po hp hbk hat => ?_
    cases o with
    | none =>
      have e0 := hat 0 (by omega)
      have e1 := hat 1 (by omega)
      have e2 := hat 2 (by omega)
      have e3 := hat 3 (by omega)
      have e4 := hat 4 (by omega)
      have e5 := hat 5 (by omega)
      have e6 := hat 6 (by omega)
      simp only [encP, sxl] at e0 e1 e2 e3 e4 e5 e6
      rw [Nat.add_zero] at e0
      simp (disch := ((try simp only [sx]); first | done | omega)) only [sx, sxc, sxl, e0, e1, e2, e3, e4, e5, e6, Nat.zero_add, Nat.add_zero, Nat.reduceAdd, Nat.reduceLT, true_and, Bool.not_false]
      generalize hw2 : setObjW (w1.alloc _) _ _ = w2
      have hk12 : Keeps [] w1 w2 := by subst hw2; exact ((Keeps.refl [] w1).alloc _).setObjW (.inr (by omega)) _
      refine hR _ _ ?_
      have e : mRoom (refB β) s = (s, (i : Int), 0) := by
        unfold mRoom
        rw [findIdx_go ho rfl hno]
      rw [← hT, e]
      exact ⟨G, rfl, hX1.grow hk12, hb1.keeps (G := fun _ => False) (hk12.toP (by simp)) (fun _ _ h => h), (show s.b.σ.rest n from by unfold BSt.rest at *; omega), (hk1.toP (by simp)).step hk12 (by simp), Fr.refl _ _, fun _ => ⟨i, rfl, ho⟩⟩
    | some p =>
      have e0 := hat 0 (by omega)
      have e1 := hat 1 (by omega)
      have e2 := hat 2 (by omega)
      have e3 := hat 3 (by omega)
      have e4 := hat 4 (by omega)
      have e5 := hat 5 (by omega)
      have e6 := hat 6 (by omega)
      simp only [encP, sxl] at e0 e1 e2 e3 e4 e5 e6
      rw [Nat.add_zero] at e0
      simp (disch := ((try simp only [sx]); first | done | omega)) only [sx, sxc, sxl, e0, e1, e2, e3, e4, e5, e6, Nat.zero_add, Nat.add_zero, Nat.reduceAdd, Nat.reduceLT, true_and, Bool.not_true]
      have hkn : Keeps [] w1 (setObjW (w1.alloc (.cells #[.bool false, .int .i64 0, .int .i64 0, .string (BA []), .bool false, .bool false, .int .u64 0] 79)) w1.heap.size (.cells #[.bool true, .int .i64 p.id, .int .i64 p.pins, .string (BA p.bytes), .bool p.touched, .bool p.dirty, .int .u64 p.lsn] 79)) := ((Keeps.refl [] w1).alloc _).setObjW (.inr (by omega)) _
      refine Br_of (fun hc => ?_) (fun hc => ?_)
      · simp (disch := ((try simp only [sx]); first | done | omega)) only [sx, sxc, sxl, Nat.zero_add, Nat.add_zero, Nat.reduceAdd, Nat.reduceLT, true_and]
        refine hJ _ _ ⟨?_, hk1.trans hkn (by simp), rfl⟩
        rw [htk, hc, Bool.true_and]
        rfl
      · refine hJ _ _ ⟨?_, hk1.trans hkn (by simp), rfl⟩
        rw [htk, hc, Bool.false_and]
  · rw [decide_eq_false (by omega)]
    simp only [sx]
    rw [List.take_of_length_le (by omega)]
    have hfi : s.ps.findIdx? isNo = none := by
      rw [List.findIdx?_eq_none_iff]
      intro o ho
      obtain ⟨j, hj⟩ := List.mem_iff_getElem?.1 ho
      exact hno j o (by have := (List.getElem?_eq_some_iff.1 hj).1; omega) hj
    have hall : ∀ o ∈ s.ps, o ≠ none := by
      intro o ho he
      subst he
      rw [List.findIdx?_eq_none_iff] at hfi
      have := hfi none ho
      simp [isNo] at this
    have hany : s.ps.any isFree = !(s.ps.all heldB) := by
      rw [List.not_all_eq_any_not]
      have : ∀ o ∈ s.ps, isFree o = !(heldB o) := by
        intro o ho
        obtain ⟨j, hj⟩ := List.mem_iff_getElem?.1 ho
        cases o with
        | none => exact absurd rfl (hall _ ho)
        | some p =>
          have := (h.ok j p hj).pins0
          simp only [isFree, heldB]
          by_cases h0 : p.pins = 0
          · rw [h0]; rfl
          · rw [decide_eq_true (by omega)]
            simp [h0]
      rw [Bool.eq_iff_iff, List.any_eq_true, List.any_eq_true]
      constructor
      · rintro ⟨o, ho, hf⟩; exact ⟨o, ho, by rw [← this o ho]; exact hf⟩
      · rintro ⟨o, ho, hf⟩; exact ⟨o, ho, by rw [this o ho]; exact hf⟩
    cases hA : s.ps.all heldB with
    | true =>
      simp only [sx]
      refine hR _ _ ?_
      have e : mRoom (refB β) s = (s, 0, 100) := by
        unfold mRoom
        rw [hfi, hany, hA]
        rfl
      rw [← hT, e]
      exact ⟨G, rfl, hX1, hb1, (show s.b.σ.rest n from by unfold BSt.rest at *; omega), hk1.toP (by simp), Fr.refl _ _, fun h0 => absurd (show (100 : Int) = 0 from h0) (by decide)⟩
    | false =>
      simp only [sx]
      rw [hA] at hany
      have hend := ends_any h.hd hall hany
      have e : sweep (refB β) (2 * s.ps.length + 1) s = T := by
        rw [← hT]
        unfold mRoom
        rw [hfi, hany]
        rfl
      refine ⟨fun k st w' => ∃ (ps1 : List (Option Pg)) (hand1 : Nat), st = (0, 0, ()) ∧ RcX w' c sl ps1 hand1 b N ∧ BkAt b w' G s.b.σ ∧ Ends (refB β) k ⟨ps1, hand1, s.b⟩ ∧ sweep (refB β) k ⟨ps1, hand1, s.b⟩ = T ∧ KeepsP (fun y => G y ∨ y = c ∨ y ∈ blk sl) w w',
        ⟨_, s.ps, s.hand, rfl, hX1, hb1, hend, e, hk1.toP (by simp)⟩, ?_⟩
      rintro k _ w2 ⟨ps1, hand1, rfl, h2, hb2, hend2, hsw, hk2⟩
      cases k with
      | zero => exact hend2.elim
      | succ k =>
        dsimp only
        obtain ⟨t2, hbox2⟩ := h2.box
        obtain ⟨o, ho⟩ : ∃ o, ps1[hand1]? = some o := ⟨_, List.getElem?_eq_getElem h2.hd⟩
        cases o with
        | none => unfold Ends at hend2; rw [show (⟨ps1, hand1, s.b⟩ : CSt (refB β)).ps[(⟨ps1, hand1, s.b⟩ : CSt (refB β)).hand]? = some none from ho] at hend2; exact hend2.elim
        | some p =>
          have hok := h2.ok _ p ho
          have hl2 := h2.slen
          have hln2 := h2.ln
          have hhd := h2.hd
          simp only [sxr, sxl, hbox2, Nat.zero_add, Nat.reduceAdd]
          refine ⟨by omega, ?_⟩
          rw [show w64 ((hand1 : Int) + 1) = ((hand1 + 1 : Nat) : Int) from w64_nat (n := hand1 + 1) (by omega), tmod_nat, hl2]
          refine set_box (w := w2.drew) hbox2 1 _ rfl (by simp) ?_
          intro w3 hbox3 hk3'
          have hk3 : Keeps [c] w2 w3 := ((Keeps.refl [c] w2).drew).trans hk3' (by simp)
          simp only [List.setIfInBounds_toArray, List.set_cons_succ, List.set_cons_zero] at hbox3
          generalize hhn : (hand1 + 1) % ps1.length = hand2 at hbox3
          have hh2 : hand2 < ps1.length := by rw [← hhn]; exact Nat.mod_lt _ (by omega)
          have h3 := h2.setHand hk3 ⟨t2, hbox3⟩ hh2
          have hb3 : BkAt b w3 G s.b.σ := hb2.keeps (hk3.toP (F := fun y => y = c) (by simp)) (fun y hy e => by subst e; exact hgc hy)
          have hkk3 : KeepsP (fun y => G y ∨ y = c ∨ y ∈ blk sl) w w3 := hk2.step hk3 (fun y hy => .inl (.inr (.inl (by simpa using hy))))
          simp only [sxr, sxl, hbox3, Nat.zero_add, Nat.reduceAdd]
          unfold Ends at hend2
          unfold sweep at hsw
          simp only [ho, hhn] at hend2 hsw
          refine h3.at ho fun pb po hp hbk hat => ?_
          have hpb : pb ∈ blk sl := by rw [hbk]; simp
          have e2 := hat 2 (by omega)
          have e4 := hat 4 (by omega)
          simp only [encP, sxl] at e2 e4
          simp only [sxr, sxl, e2]
          refine Br_of (fun hc => ?_) (fun hc => ?_)
          · simp only [decide_eq_true_eq] at hc
            rw [if_pos hc] at hend2 hsw
            exact ⟨k, by omega, ps1, hand2, by trivial, h3, hb3, hend2, hsw, hkk3⟩
          · simp only [decide_eq_false_iff_not] at hc
            rw [if_neg hc] at hend2 hsw
            simp only [sxr, sxl, e4]
            refine Br_of (fun ht => ?_) (fun ht => ?_)
            · rw [if_pos ht] at hend2 hsw
              refine h3.row.put1 encP_len hp ho (some { p with touched := false }) (j := 4) rfl (by omega) rfl rfl ?_
              intro w4 hrow4 hk4
              refine ⟨k, by omega, _, hand2, by trivial, h3.set (fun q hq => by cases hq; exact ⟨hok.pins0, hok.pinsN, hok.len⟩) hrow4 (by rw [hbk]; exact hk4), hb3.keeps (hk4.toP (F := fun y => y = pb) (by simp)) (fun y hy e => hgs pb hpb (e ▸ hy)), hend2, hsw, hkk3.step hk4 (fun y hy => .inl (.inr (.inr (by simp at hy; rw [hy]; exact hpb))))⟩
            · rw [if_neg (by simp [ht])] at hend2 hsw
              refine Cl.mono (rback_ok (β := β) h3 hb3 hgc hgs ho hr) ?_
              rintro r3 w4 ⟨G4, hr4, h4, hb4, hrest4, hk4, hf4⟩
              have hkk4 : KeepsP (fun y => G y ∨ y = c ∨ y ∈ blk sl) w w4 := hkk3.trans hk4 (fun y hy => by rcases hy with hy | hy; exact .inl (.inl hy); exact .inl (.inr (.inr hy)))
              have hf4' : Fr G G4 w := fun y hy => by rcases hf4 y hy with h' | h'; exact .inl h'; exact .inr (Nat.le_trans hkk3.size h')
              have g4s : ∀ x ∈ blk sl, ¬ G4 x := fun x hx hg => by
                rcases hf4 x hg with h' | h'
                · exact hgs x hx h'
                · have := h3.row.lt x hx; omega
              rw [hr4]
              by_cases h0 : (mClean (refB β) s.b p).2 = 0
              · rw [show ((mClean (refB β) s.b p).2 != 0) = false from by simp [h0]]
                simp only [if_pos h0] at h4 hsw
                obtain ⟨t4, hbox4⟩ := h4.box
                simp only [sxr, sxl, hbox4, Nat.zero_add, Nat.reduceAdd]
                have ho4 : (ps1.set hand1 (some { p with dirty := false }))[hand1]? = some (some { p with dirty := false }) := by rw [List.getElem?_set_self h2.hd]
                refine h4.at ho4 fun pb4 po4 hp4 hbk4 hat4 => ?_
                have hpb4 : pb4 ∈ blk sl := by rw [hbk4]; simp
                have hst := h4.row.putAll encP_len hp4 (i := hand1) (by simpa using h2.hd) none (encP_one none) (K := fun w' => R ((hand1 : Int), 0, ()) w') (by
                  intro w5 hrow5 hk5
                  refine hR _ _ ?_
                  rw [← hsw]
                  have h5 := h4.set (o := none) (fun q hq => by cases hq) hrow5 (by rw [hbk4]; exact hk5)
                  rw [List.set_set] at h5
                  exact ⟨G4, rfl, h5, hb4.keeps (hk5.toP (F := fun y => y = pb4) (by simp)) (fun y hy e => g4s pb4 hpb4 (e ▸ hy)), hrest4, hkk4.step hk5 (fun y hy => .inl (.inr (.inr (by simp at hy; rw [hy]; exact hpb4)))), hf4', fun _ => ⟨hand1, rfl, by simp only; rw [List.getElem?_set_self h2.hd]⟩⟩)
                exact hst
              · rw [show ((mClean (refB β) s.b p).2 != 0) = true from by simp [h0]]
                simp only [if_neg h0] at h4 hsw
                refine hR _ _ ?_
                rw [← hsw]
                exact ⟨G4, rfl, h4, hb4, hrest4, hkk4, hf4', fun h' => absurd h' h0⟩

end Go.Proofs.Ytelojafogbmbcaa
