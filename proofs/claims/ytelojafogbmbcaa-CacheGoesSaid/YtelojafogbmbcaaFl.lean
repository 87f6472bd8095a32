/- Contracts of package cache's functions: Flush. -/
import Derived.Test.YtelojafogbmbcaaCf
set_option linter.unusedVariables false
set_option linter.unusedSimpArgs false
namespace Go.Proofs.Ytelojafogbmbcaa
open Go Go.Sx
variable {B : BkI Try.prog}

theorem Flush_ok {N : Nat} {w : World} {c : Nat} {F G : Nat → Prop} {s : CSt B} (h : CaAt B N w c F s.ps s.hand) (hb : B.At w G s.b) (hd : Dj F G) {n : Nat} (hr : B.rest s.b (n + 2 * s.ps.length)) :
    Cl Try.prog i_cache_Cache_Flush [.pointer (some ⟨c, 0, none⟩)] false [.sc (.i .i64)]
      (fun r w' => ∃ G', r.1 = (mFlush B s.ps.length 0 s).2 ∧ CaAt B N w' c F (mFlush B s.ps.length 0 s).1.ps (mFlush B s.ps.length 0 s).1.hand ∧ B.At w' G' (mFlush B s.ps.length 0 s).1.b ∧ Dj F G' ∧ B.rest (mFlush B s.ps.length 0 s).1.b n ∧
        KeepsP (fun y => F y ∨ G y) w w' ∧ Fr G G' w) w := by
  refine Cl_gen fun R hR => ?_
  apply cache_Cache_Flush_call
  unfold cache_Cache_Flush
  obtain ⟨T, hT⟩ : ∃ T, mFlush B s.ps.length 0 s = T := ⟨_, rfl⟩
  rw [hT] at hR
  obtain ⟨τ, sl, m, pl, h1, h2, hps, hF⟩ := h
  have hGτ : ∀ x, G x → τ x = none := fun x hx => by
    cases ht : τ x with
    | none => rfl
    | some k => exact absurd hx (hd x ((hF x).2 (by rw [ht]; simp)))
  obtain ⟨t, hbox⟩ := h1.box
  simp only [sx, sxl, hbox, Nat.zero_add]
  have hlen : s.ps.length = pl.length := by rw [← hps, pgs_length]
  have hslen := h1.slen
  have hln := h1.ln
  refine ⟨fun k st w' => ∃ (i : Nat) (pl1 : List (Option Slot)) (s1 : CSt B) (G1 : Nat → Prop), st = (0, (i : Int), ()) ∧ i ≤ pl.length ∧ k = pl.length - i ∧ pgs pl1 = s1.ps ∧ pl1.length = pl.length ∧ CaL B.v N w' c τ sl m pl1 s1.hand ∧ CaM w' m (pgs pl1) ∧ B.At w' G1 s1.b ∧ (∀ x, G1 x → τ x = none) ∧
      B.rest s1.b (n + 2 * (pl.length - i)) ∧ mFlush B (pl.length - i) i s1 = T ∧ KeepsP (fun y => F y ∨ G y) w w' ∧ Fr G G1 w, ⟨pl.length, 0, pl, s, G, rfl, by omega, by omega, hps, rfl, h1, h2, hb, hGτ, by rw [← hlen]; exact hr, by rw [← hlen]; exact hT, KeepsP.refl _ _, Fr.refl _ _⟩, ?_⟩
  rintro k _ w1 ⟨i, pl1, s1, G1, rfl, hi, rfl, hps1, hl1, hL, hM, hB, hG1, hrs, hfl, hk, hfr⟩
  dsimp only
  rw [hslen]
  by_cases hil : i < pl.length
  · rw [decide_eq_true (by omega)]
    simp only [sx]
    obtain ⟨o, ho⟩ : ∃ o, pl1[i]? = some o := ⟨_, List.getElem?_eq_getElem (by omega)⟩
    have hgo : s1.ps[i]? = some (o.map Slot.pg) := by rw [← hps1]; simp [pgs, ho]
    have hstep : pl.length - i = (pl.length - (i + 1)) + 1 := by omega
    have hw : w64 ((i : Int) + 1) = ((i + 1 : Nat) : Int) := w64_nat (n := i + 1) (by omega)
    refine hL.rd ho ?_
    rw [hstep] at hfl
    unfold mFlush at hfl
    cases o with
    | none =>
      rw [hgo] at hfl
      simp only [Option.map_none] at hfl
      refine Cl.mono clean_nil ?_
      rintro r _ ⟨hr0, rfl⟩
      rw [hr0]
      simp only [sx, show ((0 : Int) != 0) = false from rfl]
      exact ⟨pl.length - (i + 1), by omega, i + 1, pl1, s1, G1, by rw [hw], by omega, rfl, hps1, hl1, hL, hM, hB, hG1, B.restM hrs (by omega), hfl, hk, hfr⟩
    | some x =>
      rw [hgo] at hfl
      simp only [Option.map_some] at hfl
      have hrs' : B.rest s1.b (n + 2 * (pl.length - (i + 1)) + 2) := B.restM hrs (by omega)
      refine Cl.mono (clean_ok hL hM hB hG1 ho hrs') ?_
      rintro r w2 ⟨G2, hr2, hL2, hM2, hB2, hG2, hrs2, hk2, hfr2⟩
      rw [hr2]
      have hts := hL.ts i x ho
      have hkk : KeepsP (fun y => F y ∨ G y) w w2 := hk.trans hk2 (fun y hy => by
        rcases hy with hy | hy
        · rcases hfr y hy with h' | h'
          · exact .inl (.inr h')
          · exact .inr h'
        · exact .inl (.inl ((hF y).2 (by rw [hy]; simp))))
      have hffr : Fr G G2 w := hfr.trans hfr2 hk.size
      by_cases h0 : (mClean B s1.b x.pg).2 = 0
      · rw [show ((mClean B s1.b x.pg).2 != 0) = false from by simp [h0]]
        rw [if_pos h0] at hL2 hM2 hfl
        simp only [sx]
        refine ⟨pl.length - (i + 1), by omega, i + 1, _, { s1 with ps := s1.ps.set i (some { x.pg with dirty := false }), b := (mClean B s1.b x.pg).1 }, G2, by rw [hw], by omega, rfl, by rw [pgs_set, hps1]; rfl, by simp [hl1], hL2, hM2, hB2, hG2, hrs2, hfl, hkk, hffr⟩
      · rw [show ((mClean B s1.b x.pg).2 != 0) = true from by simp [h0]]
        rw [if_neg h0] at hL2 hM2 hfl
        refine hR _ _ ?_
        rw [← hfl]
        exact ⟨G2, rfl, ⟨τ, sl, m, pl1, hL2, hM2, hps1, hF⟩, hB2, fun y hy hg => (hF y).1 hy (hG2 y hg), B.restM hrs2 (by omega), hkk, hffr⟩
  · rw [decide_eq_false (by omega)]
    simp only [sx]
    refine hR _ _ ?_
    have : pl.length - i = 0 := by omega
    rw [this] at hfl hrs
    rw [← hfl]
    exact ⟨G1, rfl, ⟨τ, sl, m, pl1, hL, hM, hps1, hF⟩, hB, fun y hy hg => (hF y).1 hy (hG1 y hg), hrs, hk, hfr⟩

theorem CS.flush {w0 w : World} {N c n : Nat} {L : List (Sl × List UInt8)} {Z : List (Nat × Obj)} {s : CSt B} (h : CS B w0 N c (n + 2 * s.ps.length) L Z s w) :
    Cl Try.prog i_cache_Cache_Flush [.pointer (some ⟨c, 0, none⟩)] false [.sc (.i .i64)]
      (fun r w' => r.1 = (mFlush B s.ps.length 0 s).2 ∧ CS B w0 N c n L Z (mFlush B s.ps.length 0 s).1 w') w := by
  obtain ⟨F, G, h⟩ := h
  have hF := h.ca.bl
  have hG := B.bl h.bk
  have hz := h.kp.size
  refine Cl.mono (Flush_ok h.ca h.bk h.dj h.rs) ?_
  rintro r w' ⟨G', h1, h2, h3, h4, h5, h7, h9⟩
  refine ⟨h1, F, G', h2, h3, h4, h5, ?_, fun x hx => ?_, fun p hp => ?_, fun z hz' => ?_⟩
  · have : KeepsP (fun x => w0.heap.size ≤ x) w w' := h7.mono (fun x hx => .inl (h.nw x hx))
    refine KeepsP.toL (F := fun x => w0.heap.size ≤ x) ?_ (fun x hx => hx)
    exact (h.kp.toP (by simp)).trans this (fun x hx => .inl hx)
  · rcases hx with hx | hx
    · exact h.nw x (.inl hx)
    · rcases h9 x hx with h' | h'
      · exact h.nw x (.inr h')
      · omega
  · obtain ⟨g1, g2⟩ := h.sl p hp
    have hlt := g1.lt
    refine ⟨g1.keepsP h7 (fun x hx hh => by rcases hh with hh | hh; exact (g2 x hx).2.1 hh; exact (g2 x hx).2.2 hh), fun x hx => ⟨(g2 x hx).1, (g2 x hx).2.1, fun hg => ?_⟩⟩
    rcases h9 x hg with h' | h'
    · exact (g2 x hx).2.2 h'
    · have := hlt x hx; omega
  · obtain ⟨g1, g2, g3, g4, g5⟩ := h.zs z hz'
    have hlt := hp_lt g1
    refine ⟨h7.at g1 (fun hh => by rcases hh with hh | hh; exact g3 hh; exact g4 hh), g2, g3, fun hg => ?_, g5⟩
    rcases h9 _ hg with h' | h'
    · exact g4 h'
    · omega

end Go.Proofs.Ytelojafogbmbcaa
