/- Contracts of the reference's cache: New, Pin, Unpin, Put, Flush, Dirty; all of it in one word. -/
import Derived.Test.YtelojafogbmbcaaRg
set_option linter.unusedVariables false
set_option linter.unusedSimpArgs false
namespace Go.Proofs.Ytelojafogbmbcaa
open Go Go.Sx
variable {β : Nat}

theorem rest_less {σ : BSt} {n m : Nat} (h : σ.rest n) (hm : m ≤ n) : σ.rest m := by unfold BSt.rest at *; omega

/-- The reference's cache and its Back: what they own. -/
structure RWX (w : World) (c b N n : Nat) (s : CSt (refB β)) (sl : Sl) (G H : Nat → Prop) : Prop where
  rc : RcX w c sl s.ps s.hand b N
  bk : BkAt b w G s.b.σ
  gc : ¬ G c
  gs : ∀ x ∈ blk sl, ¬ G x
  rs : s.b.σ.rest n
  own : ∀ x, H x ↔ G x ∨ x = c ∨ x ∈ blk sl
def RW (w : World) (c b N n : Nat) (s : CSt (refB β)) (H : Nat → Prop) : Prop := ∃ sl G, RWX w c b N n s sl G H

theorem RW.bl {w : World} {c b N n : Nat} {s : CSt (refB β)} {H : Nat → Prop} (h : RW w c b N n s H) : Bl H w := by
  obtain ⟨sl, G, h⟩ := h
  obtain ⟨t, hb⟩ := h.rc.box
  intro x hx
  rcases (h.own x).1 hx with hx | rfl | hx
  · exact h.bk.bl x hx
  · exact hp_lt hb
  · exact h.rc.row.lt x hx
theorem RW.keeps {w w' : World} {c b N n : Nat} {s : CSt (refB β)} {H F : Nat → Prop} (h : RW w c b N n s H) (hk : KeepsP F w w') (hd : Dj H F) : RW w' c b N n s H := by
  obtain ⟨sl, G, h⟩ := h
  exact ⟨sl, G, h.rc.keepsP hk (hd c ((h.own c).2 (.inr (.inl rfl)))) (fun x hx => hd x ((h.own x).2 (.inr (.inr hx)))), h.bk.keeps hk (fun x hx => hd x ((h.own x).2 (.inl hx))), h.gc, h.gs, h.rs, h.own⟩
theorem RW.less {w : World} {c b N n m : Nat} {s : CSt (refB β)} {H : Nat → Prop} (h : RW w c b N n s H) (hm : m ≤ n) : RW w c b N m s H := by
  obtain ⟨sl, G, h⟩ := h
  exact ⟨sl, G, h.rc, h.bk, h.gc, h.gs, by have := h.rs; unfold BSt.rest at *; omega, h.own⟩
theorem RW.mono {w : World} {c b N M n : Nat} {s : CSt (refB β)} {H : Nat → Prop} (h : RW w c b N n s H) (hm : N ≤ M) : RW w c b M n s H := by
  obtain ⟨sl, G, h⟩ := h
  exact ⟨sl, G, h.rc.mono hm, h.bk, h.gc, h.gs, h.rs, h.own⟩

/-- What a call leaves behind: the same of a new state. -/
theorem RWX.out {w w' : World} {c b N M n m : Nat} {s s' : CSt (refB β)} {sl : Sl} {G G' H : Nat → Prop} (h : RWX w c b N n s sl G H) (hr : RcX w' c sl s'.ps s'.hand b M) (hb : BkAt b w' G' s'.b.σ) (hrs : s'.b.σ.rest m) (hk : KeepsP (fun y => G y ∨ y = c ∨ y ∈ blk sl) w w') (hf : Fr G G' w) :
    ∃ H', RW w' c b M m s' H' ∧ KeepsP H w w' ∧ Fr H H' w := by
  obtain ⟨t, hbx⟩ := h.rc.box
  refine ⟨fun x => G' x ∨ x = c ∨ x ∈ blk sl, ⟨sl, G', hr, hb, fun hg => ?_, fun x hx hg => ?_, hrs, fun x => Iff.rfl⟩, hk.mono (fun y hy => .inl ((h.own y).2 hy)), fun x hx => ?_⟩
  · rcases hf c hg with h' | h'
    · exact h.gc h'
    · have := hp_lt hbx; omega
  · rcases hf x hg with h' | h'
    · exact h.gs x hx h'
    · have := h.rc.row.lt x hx; omega
  · rcases hx with hx | hx
    · rcases hf x hx with h' | h'
      · exact .inl ((h.own x).2 (.inl h'))
      · exact .inr h'
    · exact .inl ((h.own x).2 (.inr hx))

theorem rPin_ok {w : World} {c b N n : Nat} {s : CSt (refB β)} {H : Nat → Prop} (h : RW w c b N (n + 3) s H) (hN : N < 4611686018427387904) (id : Int) :
    Cl Try.prog i_sumpterref10_Cache_Pin [.pointer (some ⟨c, 0, none⟩), .int .i64 id] true [.sc .s, .sc (.i .i64)]
      (fun r w' => r = (BA (mPin (refB β) s id).2.1, (mPin (refB β) s id).2.2, ()) ∧ ∃ H', RW w' c b (N + 1) n (mPin (refB β) s id).1 H' ∧ KeepsP H w w' ∧ Fr H H' w) w := by
  refine Cl_gen fun R hR => ?_
  apply sumpterref10_Cache_Pin_call
  unfold sumpterref10_Cache_Pin
  obtain ⟨sl, G, h⟩ := h
  refine Cl.mono (rfind_ok h.rc id) ?_
  rintro r w1 ⟨hr1, hk1⟩
  rw [hr1]
  have hX1 := h.rc.grow hk1
  have hb1 : BkAt b w1 G s.b.σ := h.bk.keeps (G := fun _ => False) (hk1.toP (by simp)) (fun _ _ h => h)
  have hk1P : KeepsP (fun y => G y ∨ y = c ∨ y ∈ blk sl) w w1 := hk1.toP (by simp)
  cases hp : pidx s.ps id with
  | some i =>
    rw [show decide (oidx (some i) ≥ 0) = true from decide_eq_true (by simp [oidx])]
    obtain ⟨p, hpi, hpe⟩ := pidx_some hp
    have hok := hX1.ok i p hpi
    have hp0 := hok.pins0
    have hpN := hok.pinsN
    obtain ⟨t, hbox⟩ := hX1.box
    simp only [sxr, sxl, hbox, Nat.zero_add, oidx]
    refine hX1.at hpi fun pb po hps hbk hat => ?_
    have hpb : pb ∈ blk sl := by rw [hbk]; simp
    have e2 := hat 2 (by omega)
    simp only [encP, sxl] at e2
    simp only [sxr, sxl, e2]
    rw [w64_in (by omega) (by omega)]
    refine hX1.at hpi fun pb' po' hps' hbk' _ => ?_
    rw [hps] at hps'
    cases hps'
    simp only [sxr]
    refine hX1.row.put1 encP_len hps hpi (some { p with pins := p.pins + 1 }) (j := 2) rfl (by omega) rfl rfl ?_
    intro w2 hrow2 hk2
    have hX2 := (hX1.mono (Nat.le_succ N)).set (o := some { p with pins := p.pins + 1 }) (fun q hq => by cases hq; exact ⟨by simp only; omega, by simp only; omega, hok.len⟩) hrow2 (by rw [hbk]; exact hk2)
    obtain ⟨t2, hbox2⟩ := hX2.box
    have hil := (List.getElem?_eq_some_iff.1 hpi).1
    simp only [sxr, sxl, hbox2, Nat.zero_add]
    refine hX2.at (i := i) (o := some { p with pins := p.pins + 1 }) (by rw [List.getElem?_set_self hil]) fun pb2 po2 hps2 hbk2 _ => ?_
    rw [hps] at hps2
    cases hps2
    simp only [sxr]
    refine hX2.row.put1 encP_len hps (i := i) (x := some { p with pins := p.pins + 1 }) (by rw [List.getElem?_set_self hil]) (some { p with pins := p.pins + 1, touched := true }) (j := 4) rfl (by omega) rfl rfl ?_
    intro w3 hrow3 hk3
    have hX3 := hX2.set (o := some { p with pins := p.pins + 1, touched := true }) (fun q hq => by cases hq; exact ⟨by simp only; omega, by simp only; omega, hok.len⟩) hrow3 (by rw [hbk]; exact hk3)
    rw [List.set_set] at hX3
    obtain ⟨t3, hbox3⟩ := hX3.box
    simp only [sxr, sxl, hbox3, Nat.zero_add]
    refine hX3.at (i := i) (o := some { p with pins := p.pins + 1, touched := true }) (by rw [List.getElem?_set_self hil]) fun pb3 po3 hps3 hbk3 hat3 => ?_
    have e3 := hat3 3 (by omega)
    simp only [encP, sxl] at e3
    simp only [sxr, sxl, e3]
    refine hR _ _ ?_
    have e : mPin (refB β) s id = ({ s with ps := s.ps.set i (some { p with pins := p.pins + 1, touched := true }) }, p.bytes, 0) := by simp only [mPin, hp, hpi]
    rw [e]
    refine ⟨rfl, h.out (s' := { s with ps := s.ps.set i (some { p with pins := p.pins + 1, touched := true }) }) hX3 ((hb1.keeps (hk2.toP (F := fun y => y = pb) (by simp)) (fun y hy e => h.gs pb hpb (e ▸ hy))).keeps (hk3.toP (F := fun y => y = pb) (by simp)) (fun y hy e => h.gs pb hpb (e ▸ hy))) (rest_less h.rs (by omega)) ((hk1P.step hk2 (fun y hy => .inl (.inr (.inr (by simp at hy; rw [hy]; exact hpb))))).step hk3 (fun y hy => .inl (.inr (.inr (by simp at hy; rw [hy]; exact hpb))))) (Fr.refl _ _)⟩
  | none =>
    rw [show decide (oidx none ≥ 0) = false from by decide]
    simp only [sx]
    refine Cl.mono (rfree_ok (n := n + 1) hX1 hb1 h.gc h.gs h.rs) ?_
    rintro r w2 ⟨G2, hr2, hX2, hb2, hrs2, hk2, hf2, hfree⟩
    rw [hr2]
    have hk02 : KeepsP (fun y => G y ∨ y = c ∨ y ∈ blk sl) w w2 := hk1P.same hk2
    have hf02 : Fr G G2 w := fun y hy => by rcases hf2 y hy with h' | h'; exact .inl h'; exact .inr (Nat.le_trans hk1.size h')
    have hcl : c < w.heap.size := by obtain ⟨t, hb⟩ := h.rc.box; exact hp_lt hb
    by_cases h0 : (mRoom (refB β) s).2.2 = 0
    · rw [show ((mRoom (refB β) s).2.2 != 0) = false from by simp [h0]]
      obtain ⟨i, hi1, hi2⟩ := hfree h0
      have hil := (List.getElem?_eq_some_iff.1 hi2).1
      obtain ⟨t2, hbox2⟩ := hX2.box
      simp only [sx, sxl, hbox2, Nat.zero_add, Nat.reduceAdd]
      refine Cl.mono (Load_ok (n := n) id hb2 hrs2) ?_
      rintro r3 w3 ⟨G3, hr3, hb3, hrs3, hs3, hk3, hf3, hbk3⟩
      rw [hr3]
      have g2c : ¬ G2 c := fun hg => by
        rcases hf02 c hg with h' | h'
        · exact h.gc h'
        · omega
      have g2s : ∀ x ∈ blk sl, ¬ G2 x := fun x hx hg => by
        rcases hf02 x hg with h' | h'
        · exact h.gs x hx h'
        · have := h.rc.row.lt x hx; omega
      have hX3 := hX2.keepsP hk3 g2c g2s
      have hk03 : KeepsP (fun y => G y ∨ y = c ∨ y ∈ blk sl) w w3 := hk02.trans hk3 (fun y hy => by rcases hf02 y hy with h' | h'; exact .inl (.inl h'); exact .inr h')
      have hf03 : Fr G G3 w := hf02.trans hf3 hk02.size
      have hlen := (mRoom (refB β) s).1.b.σ.load_len (mRoom (refB β) s).1.b.plen id
      have g3s : ∀ x ∈ blk sl, ¬ G3 x := fun x hx hg => by
        rcases hf03 x hg with h' | h'
        · exact h.gs x hx h'
        · have := h.rc.row.lt x hx; omega
      by_cases h00 : ((mRoom (refB β) s).1.b.σ.load id).2.1 = 0
      · rw [show (((mRoom (refB β) s).1.b.σ.load id).2.1 != 0) = false from by simp [h00]]
        obtain ⟨t3, hbox3⟩ := hX3.box
        simp only [sxr, sxl, hbox3, Nat.zero_add, Nat.reduceAdd]
        have hs3d : SlC w3.drew r3.1 1 (cB ((mRoom (refB β) s).1.b.σ.load id).2.2) := hs3.keeps ((Keeps.refl [] w3).drew) (by simp)
        refine BtoS_of hs3d.rdb ?_
        rw [hi1]
        have hX3d := hX3.grow ((Keeps.refl [] w3).drew)
        refine hX3d.at hi2 fun pb po hps hbk _ => ?_
        have hpb : pb ∈ blk sl := by rw [hbk]; simp
        generalize hnew : (some ⟨id, 1, ((mRoom (refB β) s).1.b.σ.load id).2.2, true, false, 0⟩ : Option Pg) = np
        have hst := hX3d.row.putAll encP_len hps hil np (encP_one np) (K := fun w' => BtoS r3.1 (fun s22 => R (s22, 0, ())) w') (by
          intro w4 hrow4 hk4
          have hs4 : SlC w4 r3.1 1 (cB ((mRoom (refB β) s).1.b.σ.load id).2.2) := hs3d.keeps hk4 (fun x hx hm => by
            simp at hm
            have := (hbk3 x hx).1
            have := h.rc.row.lt pb hpb
            have := hk02.size
            omega)
          refine BtoS_of hs4.rdb ?_
          refine hR _ _ ?_
          have hl00 : ((refB β).load (mRoom (refB β) s).1.b id).2.1 = 0 := h00
          have e : mPin (refB β) s id = ({ (mRoom (refB β) s).1 with ps := (mRoom (refB β) s).1.ps.set (mRoom (refB β) s).2.1.toNat (some ⟨id, 1, ((refB β).load (mRoom (refB β) s).1.b id).2.2, true, false, 0⟩), b := ((refB β).load (mRoom (refB β) s).1.b id).1 }, ((refB β).load (mRoom (refB β) s).1.b id).2.2, 0) := by simp only [mPin, hp]; simp only [h0, hl00, if_true]
          rw [e]
          have hit : (mRoom (refB β) s).2.1.toNat = i := by rw [hi1]; rfl
          simp only [hit]
          have hX4 := (hX3d.mono (Nat.le_succ N)).set (o := np) (fun q hq => by rw [← hnew] at hq; cases hq; exact ⟨by show (0 : Int) ≤ 1; omega, by show (1 : Int) ≤ ((N + 1 : Nat) : Int); omega, hlen⟩) hrow4 (by rw [hbk]; exact hk4)
          rw [← hnew] at hX4
          have hb3d : BkAt b w3.drew G3 ((mRoom (refB β) s).1.b.σ.load id).1 := hb3.keeps (G := fun _ => False) ((KeepsP.refl _ w3).step ((Keeps.refl [] w3).drew) (by simp)) (fun _ _ h => h)
          refine ⟨rfl, h.out (s' := { (mRoom (refB β) s).1 with ps := (mRoom (refB β) s).1.ps.set i (some ⟨id, 1, ((refB β).load (mRoom (refB β) s).1.b id).2.2, true, false, 0⟩), b := ((refB β).load (mRoom (refB β) s).1.b id).1 }) hX4 (hb3d.keeps (hk4.toP (F := fun y => y = pb) (by simp)) (fun y hy e => g3s pb hpb (e ▸ hy))) hrs3 ((hk03.step ((Keeps.refl [] w3).drew) (by simp)).step hk4 (fun y hy => .inl (.inr (.inr (by simp at hy; rw [hy]; exact hpb))))) hf03⟩)
        rw [← hnew] at hst
        simp only [encP, StR, add_of, sxr] at hst
        exact hst
      · rw [show (((mRoom (refB β) s).1.b.σ.load id).2.1 != 0) = true from by simp [h00]]
        refine hR _ _ ?_
        have hl00 : ¬ ((refB β).load (mRoom (refB β) s).1.b id).2.1 = 0 := h00
        have e : mPin (refB β) s id = ({ (mRoom (refB β) s).1 with b := ((refB β).load (mRoom (refB β) s).1.b id).1 }, [], ((refB β).load (mRoom (refB β) s).1.b id).2.1) := by simp only [mPin, hp]; simp only [h0, hl00, if_true, if_false]
        rw [e]
        exact ⟨rfl, h.out (s' := { (mRoom (refB β) s).1 with b := ((refB β).load (mRoom (refB β) s).1.b id).1 }) (hX3.mono (Nat.le_succ N)) hb3 hrs3 hk03 hf03⟩
    · rw [show ((mRoom (refB β) s).2.2 != 0) = true from by simp [h0]]
      refine hR _ _ ?_
      have e : mPin (refB β) s id = ((mRoom (refB β) s).1, [], (mRoom (refB β) s).2.2) := by simp only [mPin, hp]; simp only [h0, if_false]
      rw [e]
      exact ⟨rfl, h.out (hX2.mono (Nat.le_succ N)) hb2 (rest_less hrs2 (by omega)) hk02 hf02⟩

theorem rUnpin_ok {w : World} {c b N n : Nat} {s : CSt (refB β)} {H : Nat → Prop} (h : RW w c b N n s H) (hN : N < 4611686018427387904) (id : Int) :
    Cl Try.prog i_sumpterref10_Cache_Unpin [.pointer (some ⟨c, 0, none⟩), .int .i64 id] false [.sc (.i .i64)]
      (fun r w' => r.1 = (mUnpin (refB β) s id).2 ∧ ∃ H', RW w' c b N n (mUnpin (refB β) s id).1 H' ∧ KeepsP H w w' ∧ Fr H H' w) w := by
  refine Cl_gen fun R hR => ?_
  apply sumpterref10_Cache_Unpin_call
  unfold sumpterref10_Cache_Unpin
  obtain ⟨sl, G, h⟩ := h
  refine Cl.mono (rfind_ok h.rc id) ?_
  rintro r w1 ⟨hr1, hk1⟩
  rw [hr1]
  have hX1 := h.rc.grow hk1
  have hb1 : BkAt b w1 G s.b.σ := h.bk.keeps (G := fun _ => False) (hk1.toP (by simp)) (fun _ _ h => h)
  have hk1P : KeepsP (fun y => G y ∨ y = c ∨ y ∈ blk sl) w w1 := hk1.toP (by simp)
  have out0 : mUnpin (refB β) s id = (s, 5) → R (5, ()) w1 := fun e => by
    refine hR _ _ ?_
    rw [e]
    exact ⟨rfl, h.out hX1 hb1 h.rs hk1P (Fr.refl _ _)⟩
  cases hp : pidx s.ps id with
  | none =>
    simp only [Jp, oidx, show decide ((-1 : Int) < 0) = true from by decide, sx]
    exact out0 (by simp only [mUnpin, hp])
  | some i =>
    obtain ⟨p, hpi, hpe⟩ := pidx_some hp
    have hok := hX1.ok i p hpi
    have hp0 := hok.pins0
    have hpN := hok.pinsN
    obtain ⟨t, hbox⟩ := hX1.box
    refine Jp_of (fun st w' => st = (decide (p.pins = 0), ()) ∧ w1 = w') ?_ ?_
    · intro J hJ
      rw [show decide (oidx (some i) < 0) = false from decide_eq_false (by simp [oidx])]
      simp only [sxr, sxl, hbox, Nat.zero_add, oidx]
      refine hX1.at hpi fun pb po hps hbk hat => ?_
      have e2 := hat 2 (by omega)
      simp only [encP, sxl] at e2
      simp only [sxr, sxl, e2]
      exact hJ _ _ ⟨by congr 1, rfl⟩
    rintro _ _ ⟨rfl, rfl⟩
    refine Br_of (fun hc => ?_) (fun hc => ?_)
    · have hc' : p.pins = 0 := by simpa using hc
      exact out0 (by simp only [mUnpin, hp, hpi, hc', if_true])
    · have hc' : ¬ p.pins = 0 := by simpa using hc
      simp only [sxr, sxl, hbox, Nat.zero_add, oidx]
      refine hX1.at hpi fun pb po hps hbk hat => ?_
      have hpb : pb ∈ blk sl := by rw [hbk]; simp
      have e2 := hat 2 (by omega)
      simp only [encP, sxl] at e2
      simp only [sxr, sxl, e2]
      rw [w64_in (by omega) (by omega)]
      refine hX1.at hpi fun pb' po' hps' hbk' _ => ?_
      rw [hps] at hps'
      cases hps'
      simp only [sxr]
      refine hX1.row.put1 encP_len hps hpi (some { p with pins := p.pins - 1 }) (j := 2) rfl (by omega) rfl rfl ?_
      intro w2 hrow2 hk2
      refine hR _ _ ?_
      have e : mUnpin (refB β) s id = ({ s with ps := s.ps.set i (some { p with pins := p.pins - 1 }) }, 0) := by simp only [mUnpin, hp, hpi, if_neg hc']
      rw [e]
      exact ⟨rfl, h.out (s' := { s with ps := s.ps.set i (some { p with pins := p.pins - 1 }) }) (hX1.set (fun q hq => by cases hq; exact ⟨by simp only; omega, by simp only; omega, hok.len⟩) hrow2 (by rw [hbk]; exact hk2)) (hb1.keeps (hk2.toP (F := fun y => y = pb) (by simp)) (fun y hy e => h.gs pb hpb (e ▸ hy))) h.rs (hk1P.step hk2 (fun y hy => .inl (.inr (.inr (by simp at hy; rw [hy]; exact hpb))))) (Fr.refl _ _)⟩

theorem rPut_ok {w : World} {c b N n : Nat} {s : CSt (refB β)} {H : Nat → Prop} (h : RW w c b N n s H) (id : Int) (bs : List UInt8) (l : Int) (hl : 0 ≤ l) (hbs : bs.length ≤ 140737488355328) :
    Cl Try.prog i_sumpterref10_Cache_Put [.pointer (some ⟨c, 0, none⟩), .int .i64 id, .string (BA bs), .int .u64 l] false [.sc (.i .i64)]
      (fun r w' => r.1 = (mPut (refB β) s id bs l).2 ∧ ∃ H', RW w' c b N n (mPut (refB β) s id bs l).1 H' ∧ KeepsP H w w' ∧ Fr H H' w) w := by
  refine Cl_gen fun R hR => ?_
  apply sumpterref10_Cache_Put_call
  unfold sumpterref10_Cache_Put
  obtain ⟨sl, G, h⟩ := h
  refine Cl.mono (rfind_ok h.rc id) ?_
  rintro r w1 ⟨hr1, hk1⟩
  rw [hr1]
  have hX1 := h.rc.grow hk1
  have hb1 : BkAt b w1 G s.b.σ := h.bk.keeps (G := fun _ => False) (hk1.toP (by simp)) (fun _ _ h => h)
  have hk1P : KeepsP (fun y => G y ∨ y = c ∨ y ∈ blk sl) w w1 := hk1.toP (by simp)
  have out0 : mPut (refB β) s id bs l = (s, 5) → R (5, ()) w1 := fun e => by
    refine hR _ _ ?_
    rw [e]
    exact ⟨rfl, h.out hX1 hb1 h.rs hk1P (Fr.refl _ _)⟩
  cases hp : pidx s.ps id with
  | none =>
    simp only [Jp, oidx, show decide ((-1 : Int) < 0) = true from by decide, sx]
    exact out0 (by simp only [mPut, hp])
  | some i =>
    obtain ⟨p, hpi, hpe⟩ := pidx_some hp
    have hok := hX1.ok i p hpi
    have hp0 := hok.pins0
    have hpN := hok.pinsN
    obtain ⟨t, hbox⟩ := hX1.box
    refine Jp_of (fun st w' => st = (decide (p.pins = 0), ()) ∧ w1 = w') ?_ ?_
    · intro J hJ
      rw [show decide (oidx (some i) < 0) = false from decide_eq_false (by simp [oidx])]
      simp only [sxr, sxl, hbox, Nat.zero_add, oidx]
      refine hX1.at hpi fun pb po hps hbk hat => ?_
      have e2 := hat 2 (by omega)
      simp only [encP, sxl] at e2
      simp only [sxr, sxl, e2]
      exact hJ _ _ ⟨by congr 1, rfl⟩
    rintro _ _ ⟨rfl, rfl⟩
    refine Br_of (fun hc => ?_) (fun hc => ?_)
    · have hc' : p.pins = 0 := by simpa using hc
      exact out0 (by simp only [mPut, hp, hpi, hc', if_true])
    · have hc' : ¬ p.pins = 0 := by simpa using hc
      simp only [sxr, sxl, hbox, Nat.zero_add, oidx]
      refine hX1.at hpi fun pb po hps hbk hat => ?_
      have hpb : pb ∈ blk sl := by rw [hbk]; simp
      have e5 := hat 5 (by omega)
      have e6 := hat 6 (by omega)
      simp only [encP, sxl] at e5 e6
      have hil := (List.getElem?_eq_some_iff.1 hpi).1
      generalize hL : (if l > (if p.dirty then p.lsn else 0) then l else (if p.dirty then p.lsn else 0)) = L
      refine Jp_of (fun st w' => st = (L, ()) ∧ w1 = w') ?_ ?_
      · intro J hJ
        simp only [sxr, sxl, e5, e6]
        refine Br_of (fun hd => ?_) (fun hd => ?_)
        · simp only [sxr, sxl, e6]
          refine hJ _ _ ⟨?_, rfl⟩
          rw [← hL, hd]
          simp only [if_true]
          congr 1
          split <;> split <;> omega
        · refine hJ _ _ ⟨?_, rfl⟩
          rw [← hL, hd]
          simp only [Bool.false_eq_true, if_false]
          congr 1
          split <;> omega
      rintro _ _ ⟨rfl, rfl⟩
      simp only [sxr]
      refine hX1.row.put1 encP_len hps hpi (some { p with bytes := bs }) (j := 3) rfl (by omega) rfl rfl ?_
      intro w2 hrow2 hk2
      refine hrow2.put1 encP_len hps (x := some { p with bytes := bs }) (by rw [List.getElem?_set_self hil]) (some { p with bytes := bs, dirty := true }) (j := 5) rfl (by omega) rfl rfl ?_
      intro w3 hrow3 hk3
      rw [List.set_set] at hrow3
      refine hrow3.put1 encP_len hps (x := some { p with bytes := bs, dirty := true }) (by rw [List.getElem?_set_self hil]) (some { p with bytes := bs, dirty := true, touched := true }) (j := 4) rfl (by omega) rfl rfl ?_
      intro w4 hrow4 hk4
      rw [List.set_set] at hrow4
      refine hrow4.put1 encP_len hps (x := some { p with bytes := bs, dirty := true, touched := true }) (by rw [List.getElem?_set_self hil]) (some { p with bytes := bs, dirty := true, touched := true, lsn := L }) (j := 6) rfl (by omega) rfl rfl ?_
      intro w5 hrow5 hk5
      rw [List.set_set] at hrow5
      have hk15 : Keeps [pb] w1 w5 := ((hk2.trans hk3 (by simp)).trans hk4 (by simp)).trans hk5 (by simp)
      refine hR _ _ ?_
      have e : mPut (refB β) s id bs l = ({ s with ps := s.ps.set i (some { p with bytes := bs, dirty := true, touched := true, lsn := L }) }, 0) := by simp only [mPut, hp, hpi, if_neg hc', hL]
      rw [e]
      exact ⟨rfl, h.out (s' := { s with ps := s.ps.set i (some { p with bytes := bs, dirty := true, touched := true, lsn := L }) }) (hX1.set (fun q hq => by cases hq; exact ⟨hok.pins0, hok.pinsN, hbs⟩) hrow5 (by rw [hbk]; exact hk15)) (hb1.keeps (hk15.toP (F := fun y => y = pb) (by simp)) (fun y hy e => h.gs pb hpb (e ▸ hy))) h.rs (hk1P.step hk15 (fun y hy => .inl (.inr (.inr (by simp at hy; rw [hy]; exact hpb))))) (Fr.refl _ _)⟩

theorem rFlush_ok {w : World} {c b N n : Nat} {s : CSt (refB β)} {H : Nat → Prop} (h : RW w c b N (n + 2 * s.ps.length) s H) :
    Cl Try.prog i_sumpterref10_Cache_Flush [.pointer (some ⟨c, 0, none⟩)] false [.sc (.i .i64)]
      (fun r w' => r.1 = (mFlush (refB β) s.ps.length 0 s).2 ∧ ∃ H', RW w' c b N n (mFlush (refB β) s.ps.length 0 s).1 H' ∧ KeepsP H w w' ∧ Fr H H' w) w := by
  refine Cl_gen fun R hR => ?_
  apply sumpterref10_Cache_Flush_call
  unfold sumpterref10_Cache_Flush
  obtain ⟨sl, G, h⟩ := h
  obtain ⟨T, hT⟩ : ∃ T, mFlush (refB β) s.ps.length 0 s = T := ⟨_, rfl⟩
  rw [hT] at hR
  obtain ⟨t, hbox⟩ := h.rc.box
  have hcl := hp_lt hbox
  simp only [sx, sxl, hbox, Nat.zero_add]
  have hl := h.rc.slen
  have hln := h.rc.ln
  refine ⟨fun k st w' => ∃ (i : Nat) (s1 : CSt (refB β)) (G1 : Nat → Prop), st = (0, (i : Int), ()) ∧ i ≤ s.ps.length ∧ k = s.ps.length - i ∧ s1.ps.length = s.ps.length ∧ RcX w' c sl s1.ps s1.hand b N ∧ BkAt b w' G1 s1.b.σ ∧ s1.b.σ.rest (n + 2 * (s.ps.length - i)) ∧ mFlush (refB β) (s.ps.length - i) i s1 = T ∧ KeepsP (fun y => G y ∨ y = c ∨ y ∈ blk sl) w w' ∧ Fr G G1 w,
    ⟨s.ps.length, 0, s, G, rfl, by omega, by omega, rfl, h.rc, h.bk, h.rs, hT, KeepsP.refl _ _, Fr.refl _ _⟩, ?_⟩
  rintro k _ w1 ⟨i, s1, G1, rfl, hi, rfl, hl1, hX, hB, hrs, hfl, hk, hfr⟩
  dsimp only
  rw [hl]
  by_cases hil : i < s.ps.length
  · rw [decide_eq_true (by omega)]
    simp only [sx]
    obtain ⟨o, ho⟩ : ∃ o, s1.ps[i]? = some o := ⟨_, List.getElem?_eq_getElem (by omega)⟩
    have hstep : s.ps.length - i = (s.ps.length - (i + 1)) + 1 := by omega
    have hw : w64 ((i : Int) + 1) = ((i + 1 : Nat) : Int) := w64_nat (n := i + 1) (by omega)
    rw [hstep] at hfl
    unfold mFlush at hfl
    rw [ho] at hfl
    cases o with
    | none =>
      simp only at hfl
      refine Cl.mono (rback_none hX ho) ?_
      rintro r _ ⟨hr0, rfl⟩
      rw [hr0]
      simp only [sx, show ((0 : Int) != 0) = false from rfl]
      exact ⟨s.ps.length - (i + 1), by omega, i + 1, s1, G1, by rw [hw], by omega, rfl, hl1, hX, hB, rest_less hrs (by omega), hfl, hk, hfr⟩
    | some p =>
      simp only at hfl
      have g1c : ¬ G1 c := fun hg => by
        rcases hfr c hg with h' | h'
        · exact h.gc h'
        · omega
      have g1s : ∀ x ∈ blk sl, ¬ G1 x := fun x hx hg => by
        rcases hfr x hg with h' | h'
        · exact h.gs x hx h'
        · have := h.rc.row.lt x hx; omega
      refine Cl.mono (rback_ok (β := β) (n := n + 2 * (s.ps.length - (i + 1))) hX hB g1c g1s ho (rest_less hrs (by omega))) ?_
      rintro r w2 ⟨G2, hr2, hX2, hB2, hrs2, hk2, hfr2⟩
      rw [hr2]
      have hkk : KeepsP (fun y => G y ∨ y = c ∨ y ∈ blk sl) w w2 := hk.trans hk2 (fun y hy => by
        rcases hy with hy | hy
        · rcases hfr y hy with h' | h'
          · exact .inl (.inl h')
          · exact .inr h'
        · exact .inl (.inr (.inr hy)))
      have hffr : Fr G G2 w := hfr.trans hfr2 hk.size
      by_cases h0 : (mClean (refB β) s1.b p).2 = 0
      · rw [show ((mClean (refB β) s1.b p).2 != 0) = false from by simp [h0]]
        rw [if_pos h0] at hX2 hfl
        simp only [sx]
        exact ⟨s.ps.length - (i + 1), by omega, i + 1, { s1 with ps := s1.ps.set i (some { p with dirty := false }), b := (mClean (refB β) s1.b p).1 }, G2, by rw [hw], by omega, rfl, by simp [hl1], hX2, hB2, hrs2, hfl, hkk, hffr⟩
      · rw [show ((mClean (refB β) s1.b p).2 != 0) = true from by simp [h0]]
        rw [if_neg h0] at hX2 hfl
        refine hR _ _ ?_
        rw [← hfl]
        exact ⟨rfl, h.out (s' := { s1 with b := (mClean (refB β) s1.b p).1 }) hX2 hB2 (rest_less hrs2 (by omega)) hkk hffr⟩
  · rw [decide_eq_false (by omega)]
    simp only [sx]
    refine hR _ _ ?_
    have : s.ps.length - i = 0 := by omega
    rw [this] at hfl hrs
    rw [← hfl]
    exact ⟨rfl, h.out hX hB hrs hk hfr⟩

theorem rNew_no {w : World} {n : Int} {p : Option Addr} (hn : ¬ (1 ≤ n ∧ n ≤ 64)) : Cl Try.prog i_sumpterref10_New [.int .i64 n, .pointer p] true [.sc .p, .sc (.i .i64)] (fun r w' => r = (none, 1, ()) ∧ w = w') w := by
  apply sumpterref10_New_call
  unfold sumpterref10_New
  refine Jp_of (fun s w' => s = (true, ()) ∧ w = w') ?_ ?_
  · intro J hJ
    refine Br_of (fun hc => hJ _ _ ⟨rfl, rfl⟩) (fun hc => ?_)
    simp only [decide_eq_false_iff_not] at hc
    rw [decide_eq_true (by omega)]
    exact hJ _ _ ⟨rfl, rfl⟩
  rintro _ _ ⟨rfl, rfl⟩
  exact ⟨rfl, rfl⟩

theorem zerosL_flat (n : Nat) : zerosL (encP none) n = (List.replicate n (none : Option Pg)).flatMap encP := by
  induction n with
  | zero => rfl
  | succ n ih => rw [zerosL, ih, List.replicate_succ, List.flatMap_cons]

theorem rNew_yes {w : World} {n b : Nat} {G : Nat → Prop} (h1 : 1 ≤ n) (h2 : n ≤ 64) {σ : BS} (hb : BkAt b w G σ.σ) {m : Nat} (hr : σ.σ.rest m) :
    Cl Try.prog i_sumpterref10_New [.int .i64 (n : Int), .pointer (some ⟨b, 0, none⟩)] true [.sc .p, .sc (.i .i64)]
      (fun r w' => ∃ c H, r = (some ⟨c, 0, none⟩, 0, ()) ∧ RW w' c b 0 m (newC (B := refB β) n σ) H ∧ Keeps [] w w' ∧ ∀ x, H x → G x ∨ w.heap.size ≤ x) w := by
  apply sumpterref10_New_call
  unfold sumpterref10_New
  have hbl := hb.bl
  refine Jp_of (fun s w' => s = (false, ()) ∧ w = w') ?_ ?_
  · intro J hJ
    rw [decide_eq_false (by omega), decide_eq_false (by omega)]
    exact hJ _ _ ⟨rfl, rfl⟩
  rintro _ _ ⟨rfl, rfl⟩
  simp only [sx]
  refine Mk_of (Nat.le_refl _) (by omega) (by omega) ?_
  intro w1 hs1 hk1 hz1
  have hz : zc Try.prog 79 = (encP none).toArray := by kernel_rfl
  have hmk : (madeCells (zc Try.prog 79) (n * 7)).toList.take (n * 7) = (List.replicate n (none : Option Pg)).flatMap encP := by
    rw [hz]
    have := zeros_eq (encP none).toArray n
    have e : madeCells (encP none).toArray (n * 7) = (zerosL (encP none) n).toArray := this
    rw [e]
    rw [← zerosL_flat]
    exact List.take_of_length_le (by rw [zerosL_length]; exact Nat.le_refl _)
  rw [hmk] at hs1
  simp only [sx]
  generalize hw2 : w1.alloc _ = w2
  have hb2 : w2.heap[w1.heap.size]? = some (.cells #[.slice (some ⟨w.heap.size, 0, none⟩) n n, .int .i64 0, .pointer (some ⟨b, 0, none⟩)] 54 (0, 0)) := by rw [← hw2]; exact hp_alloc_new w1 _
  have hk2 : Keeps [] w1 w2 := by rw [← hw2]; exact (Keeps.refl [] w1).alloc _
  have hk02 : Keeps [] w w2 := hk1.trans hk2 (by simp)
  have hg : ∀ (i : Nat) (p : Pg), (List.replicate n (none : Option Pg))[i]? ≠ some (some p) := by
    intro i p h
    rw [List.getElem?_replicate] at h
    split at h <;> cases h
  have hbk : ∀ x ∈ blk ⟨some ⟨w.heap.size, 0, none⟩, n, n⟩, x = w.heap.size := blk_sub rfl
  refine ⟨w1.heap.size, fun x => G x ∨ x = w1.heap.size ∨ x ∈ blk ⟨some ⟨w.heap.size, 0, none⟩, n, n⟩, rfl, ⟨⟨some ⟨w.heap.size, 0, none⟩, n, n⟩, G, ⟨⟨54, hb2⟩, hs1.keeps hk2 (by simp), fun hx => by have := hbk _ hx; omega, fun i p hp => absurd hp (hg i p), by simp [newC]; omega, by simp [newC]; exact h2⟩, hb.keeps (G := fun _ => False) (hk02.toP (by simp)) (fun _ _ h => h), fun hx => by have := hbl _ hx; omega, fun x hx hg' => by have := hbl _ hg'; have := hbk x hx; omega, hr, fun x => Iff.rfl⟩, hk02, fun x hx => ?_⟩
  rcases hx with hx | rfl | hx
  · exact .inl hx
  · right; omega
  · right; rw [hbk x hx]; exact Nat.le_refl _

end Go.Proofs.Ytelojafogbmbcaa
