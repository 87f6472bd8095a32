/- Contracts of package cache's functions: find, clean, room. -/
import Derived.Test.YtelojafogbmbcaaCa
set_option linter.unusedVariables false
set_option linter.unusedSimpArgs false
namespace Go.Proofs.Ytelojafogbmbcaa
open Go Go.Sx
variable {B : BkI Try.prog}

theorem Clone_ok {w : World} {s : Sl} {bs : List UInt8} (h : RdB s bs w) (hl : bs.length ≤ 140737488355328) :
    Cl Try.prog i_slices_Clone [.slice s.p s.len s.cap] false [.sc .sl] (fun r w' => SlC w' r.1 1 (cB bs) ∧ r.1.len = s.len ∧ Keeps [] w w' ∧ ∀ x ∈ blk r.1, w.heap.size ≤ x) w := by
  apply slices_Clone_call
  unfold slices_Clone
  have hr := rdb_rdc h
  have h1 := h.1
  refine Clone_w (size := 1) (bytes := 1) (cs := cB bs) (K := fun r w' => SlC w' r 1 (cB bs) ∧ r.len = s.len ∧ Keeps [] w w' ∧ ∀ x ∈ blk r, w.heap.size ≤ x) (by kernel_rfl) (by omega) (by rw [Nat.mul_one]; exact hr) (cB_one bs) (by omega) (by omega) ?_
  intro r w' h1 h2 h3 h4
  exact ⟨h1, h2, h3, h4⟩

theorem CaL.rd {v : Value} {N : Nat} {w : World} {c : Nat} {τ : Tau} {sl : Sl} {m : Nat} {pl : List (Option Slot)} {hand : Nat} (h : CaL v N w c τ sl m pl hand) {i : Nat} {o : Option Slot} (hi : pl[i]? = some o) {K : Option Addr → Pr} (k : K (o.map fun x => ⟨x.b, 0, none⟩) w) : Ix sl (i : Int) 1 (fun a => LdP a K) w := by
  have hlt := (List.getElem?_eq_some_iff.1 hi).1
  have hs := h.slen
  obtain ⟨b, o', hp, _⟩ := h.row.base (by omega)
  rw [Ix_base hp (by omega) (by omega), Int.toNat_natCast, Nat.mul_one, LdP_c, h.row.read hp (by simpa using hlt), List.getElem?_map, hi]
  exact k

theorem find_ok {N : Nat} {w : World} {c : Nat} {τ : Tau} {sl : Sl} {m : Nat} {pl : List (Option Slot)} {hand : Nat} (h : CaL B.v N w c τ sl m pl hand) (hm : CaM w m (pgs pl)) (id : Int) :
    Cl Try.prog i_cache_Cache_find [.pointer (some ⟨c, 0, none⟩), .int .i64 id] true [.sc .p, .sc .b]
      (fun r w' => w = w' ∧ match pidx (pgs pl) id with | some i => ∃ x, pl[i]? = some (some x) ∧ r = (some ⟨x.b, 0, none⟩, true, ()) | none => r = (none, false, ())) w := by
  apply cache_Cache_find_call
  unfold cache_Cache_find
  obtain ⟨t, hb⟩ := h.box
  obtain ⟨kv, hm1, hm2⟩ := hm.mp
  have hg := hm2 id
  simp only [sx, sxl, hb, Nat.zero_add, Nat.reduceAdd]
  cases hp : pidx (pgs pl) id with
  | none =>
    rw [hp] at hg
    refine LkK_none (keyOk_int _) hm1 hg ?_
    simp only [Bool.not_false, sx]
    exact ⟨by trivial, by trivial⟩
  | some i =>
    rw [hp] at hg
    refine LkK_some (kd := .i .i64) (x := (i : Int)) (keyOk_int _) hm1 hg ?_
    obtain ⟨p, hpi, _⟩ := pidx_some hp
    obtain ⟨x, hx, rfl⟩ := pgs_get' hpi
    simp only [Bool.not_true, sx, sxl, hb, Nat.zero_add, Nat.reduceAdd]
    refine h.rd hx ?_
    exact ⟨by trivial, x, hx, rfl⟩

theorem set_self {α : Type} {l : List α} {i : Nat} {a : α} (h : l[i]? = some a) : l.set i a = l := by
  apply List.ext_getElem?
  intro j
  by_cases hj : i = j
  · subst hj
    rw [List.getElem?_set_self (List.getElem?_eq_some_iff.1 h).1, h]
  · rw [List.getElem?_set_ne hj]

theorem clean_nil {w : World} {c : Nat} : Cl Try.prog i_cache_Cache_clean [.pointer (some ⟨c, 0, none⟩), .pointer none] false [.sc (.i .i64)] (fun r w' => r.1 = 0 ∧ w = w') w := by
  apply cache_Cache_clean_call
  unfold cache_Cache_clean
  simp only [Jp, sx, Option.isNone_none]
  exact ⟨by trivial, by trivial⟩

theorem clean_ok {N : Nat} {w : World} {c : Nat} {τ : Tau} {sl : Sl} {m : Nat} {pl : List (Option Slot)} {hand : Nat} (h : CaL B.v N w c τ sl m pl hand) (hm : CaM w m (pgs pl)) {s : B.S} {G : Nat → Prop} (hb : B.At w G s) (hd : ∀ x, G x → τ x = none)
    {i : Nat} {x : Slot} (hx : pl[i]? = some (some x)) {n : Nat} (hr : B.rest s (n + 2)) :
    Cl Try.prog i_cache_Cache_clean [.pointer (some ⟨c, 0, none⟩), .pointer (some ⟨x.b, 0, none⟩)] false [.sc (.i .i64)]
      (fun r w' => ∃ G', r.1 = (mClean B s x.pg).2 ∧ CaL B.v N w' c τ sl m (if (mClean B s x.pg).2 = 0 then pl.set i (some { x with pg := { x.pg with dirty := false } }) else pl) hand ∧
        CaM w' m (pgs (if (mClean B s x.pg).2 = 0 then pl.set i (some { x with pg := { x.pg with dirty := false } }) else pl)) ∧ B.At w' G' (mClean B s x.pg).1 ∧ (∀ x, G' x → τ x = none) ∧ B.rest (mClean B s x.pg).1 n ∧
        KeepsP (fun y => G y ∨ τ y = some (3 + 2 * i)) w w' ∧ Fr G G' w) w := by
  refine Cl_gen fun R hR => ?_
  apply cache_Cache_clean_call
  unfold cache_Cache_clean
  obtain ⟨t, hbox⟩ := h.box
  obtain ⟨t', hsb⟩ := h.sb i x hx
  have hts := h.ts i x hx
  have hself : x.pg.dirty = false → pl.set i (some { x with pg := { x.pg with dirty := false } }) = pl := by
    intro hf
    have e : ({ x with pg := { x.pg with dirty := false } } : Slot) = x := by
      obtain ⟨b, s, ⟨id, pins, bytes, touched, dirty, lsn⟩⟩ := x
      simp only at hf
      subst hf
      rfl
    rw [e]
    exact set_self hx
  refine Jp_of (fun s' w' => s' = (!x.pg.dirty, ()) ∧ w = w') ?_ ?_
  · intro J hJ
    simp only [sx, sxl, Option.isNone_some, hsb, pgCells, Nat.zero_add, Nat.reduceAdd]
    exact hJ _ _ ⟨rfl, rfl⟩
  rintro _ _ ⟨rfl, rfl⟩
  cases hdt : x.pg.dirty with
  | false =>
    simp only [Bool.not_false, sx]
    refine hR _ _ ?_
    simp only [mClean, hdt, if_true]
    rw [hself hdt]
    exact ⟨G, by trivial, h, hm, hb, hd, B.restM hr (by omega), KeepsP.refl _ _, Fr.refl _ _⟩
  | true =>
    simp only [Bool.not_true, sx]
    have hnb : ¬ G x.b := fun hg => by rw [hd _ hg] at hts; cases hts
    have hnc : ¬ G c := fun hg => by have := h.tc; rw [hd _ hg] at this; cases this
    -- what holds behind a call of the Back
    have fresh : ∀ {w1 : World} {G1 : Nat → Prop}, Fr G G1 w → ∀ y, G1 y → τ y = none := fun hf y hy => by
      rcases hf y hy with h1 | h1
      · exact hd y h1
      · cases ht : τ y with
        | none => rfl
        | some k => have := h.tl y (by rw [ht]; simp); omega
    refine Jp_of (fun _ w' => ∃ (f : B.S × Int) (G1 : Nat → Prop), f = (if B.safe s < x.pg.lsn then B.force s x.pg.lsn else (s, 0)) ∧ f.2 = 0 ∧ B.At w' G1 f.1 ∧ B.rest f.1 (n + 1) ∧ KeepsP G w w' ∧ Fr G G1 w) ?_ ?_
    · intro J hJ
      simp only [sx, sxl, hsb, hbox, pgCells, Nat.zero_add, Nat.reduceAdd]
      refine Inv.mono (B.safe_ok (w := w.drew) (B.keeps (G := fun _ => False) hb ((KeepsP.refl _ w).step ((Keeps.refl [] w).drew) (by simp)) (fun _ _ h => h))) ?_
      rintro r _ ⟨hr1, rfl⟩
      simp only [sx, sxl, hsb, hbox, pgCells, Nat.zero_add, Nat.reduceAdd, hr1, true_and]
      refine Br_of (fun hc => ?_) (fun hc => ?_)
      · simp only [decide_eq_true_eq] at hc
        simp only [sx, sxl, hsb, hbox, pgCells, Nat.zero_add, Nat.reduceAdd, B.nc]
        refine Inv.mono (B.force_ok (w := w.drew.drew) (n := n + 1) x.pg.lsn (B.keeps (G := fun _ => False) hb ((KeepsP.refl _ w).step ((Keeps.refl [] w).drew.drew) (by simp)) (fun _ _ h => h)) hr) ?_
        rintro r2 w2 ⟨G1, h1, h2, h3, h4, h5⟩
        rw [h1]
        have hk2 : KeepsP G w w2 := ((KeepsP.refl G w).step ((Keeps.refl [] w).drew.drew) (by simp)).same h4
        by_cases h0 : (B.force s x.pg.lsn).2 = 0
        · rw [show ((B.force s x.pg.lsn).2 != 0) = false from by simp [h0]]
          exact hJ _ _ ⟨_, G1, rfl, by rw [if_pos hc]; exact h0, by rw [if_pos hc]; exact h2, by rw [if_pos hc]; exact h3, hk2, h5⟩
        · rw [show ((B.force s x.pg.lsn).2 != 0) = true from by simp [h0]]
          refine hR _ _ ?_
          have e : mClean B s x.pg = B.force s x.pg.lsn := by simp [mClean, hdt, hc, h0]
          simp only [e, if_neg h0]
          exact ⟨G1, by trivial, h.keeps hk2 hd, hm.keeps hk2 (fun hg => by have := h.tm; rw [hd _ hg] at this; cases this), h2, fresh (w1 := w2) h5, B.restM h3 (by omega), hk2.mono (fun y hy => .inl (.inl hy)), h5⟩
      · simp only [decide_eq_false_iff_not] at hc
        exact hJ _ _ ⟨_, G, rfl, by rw [if_neg hc], by rw [if_neg hc]; exact B.keeps (G := fun _ => False) hb ((KeepsP.refl _ w).step ((Keeps.refl [] w).drew) (by simp)) (fun _ _ h => h), by rw [if_neg hc]; exact B.restM hr (by omega), (KeepsP.refl G w).step ((Keeps.refl [] w).drew) (by simp), Fr.refl _ _⟩
    · rintro _ w1 ⟨f, G1, hf, hf0, hb1, hr1, hk1, hfr1⟩
      have hsb1 := hk1.at hsb hnb
      have hbox1 := hk1.at hbox hnc
      have hsy1 := (h.keeps hk1 hd).sy i x hx
      have hok := h.ok i x hx
      simp only [pgCells] at hsb1
      simp only [sx, sxl, hsb1, hbox1, Nat.zero_add, Nat.reduceAdd, B.nc]
      refine Cl.mono (Clone_ok (w := w1.drew) hsy1.rdb hok.len) ?_
      rintro r w2 ⟨hs2, hl2, hk2, hfr2⟩
      have hk2' : KeepsP G w w2 := (hk1.step ((Keeps.refl [] w1).drew) (by simp)).step hk2 (by simp)
      have hsb2 := hk2'.at hsb hnb
      have hbox2 := hk2'.at hbox hnc
      have hb2 : B.At w2 G1 f.1 := B.keeps (G := fun _ => False) hb1 (((KeepsP.refl _ w1).step ((Keeps.refl [] w1).drew) (by simp)).step hk2 (by simp)) (fun _ _ h => h)
      simp only [pgCells] at hsb2
      simp only [sx, sxl, hsb2, hbox2, Nat.zero_add, Nat.reduceAdd, true_and]
      have hbl1 := B.bl hb1
      have hmc : mClean B s x.pg = B.save f.1 x.pg.id x.pg.bytes := by
        simp only [mClean, hdt, ← hf, hf0, if_true]
        rfl
      refine Inv.mono (B.save_ok (n := n) x.pg.id r.1 x.pg.bytes hb2 hr1 hs2 hok.len (fun y hy hg => by have := hfr2 y hy; have := hbl1 y hg; have : w1.drew.heap.size = w1.heap.size := rfl; omega)) ?_
      rintro r3 w3 ⟨G3, h1, h2, h3, h4, h5⟩
      have hfr3 : Fr G G3 w := hfr1.trans (h5.trans (Fr.refl _ w2) (Nat.le_refl _)) hk2'.size
      have hk3 : KeepsP G w w3 := hk2'.trans h4 hfr1
      have hG3 := fresh (w1 := w3) hfr3
      rw [h1]
      by_cases h0 : (B.save f.1 x.pg.id x.pg.bytes).2 = 0
      · rw [show ((B.save f.1 x.pg.id x.pg.bytes).2 != 0) = false from by simp [h0]]
        simp only [sxr, Nat.zero_add]
        refine set_box (hk3.at hsb hnb) 4 _ rfl (by simp [pgCells]) ?_
        intro w4 hb4 hk4
        refine hR _ _ ?_
        simp only [hmc, if_pos h0]
        have hL := (h.keeps hk3 hd).put hx { x.pg with dirty := false } hk4 ⟨t', by rw [hb4]; simp [pgCells]⟩ rfl ⟨hok.pins0, hok.pinsN, hok.len⟩
        have hM : CaM w4 m (pgs (pl.set i (some { x with pg := { x.pg with dirty := false } }))) := by
          rw [pgs_set]
          refine CaM.set ((hm.keeps hk3 (fun hg => by have := h.tm; rw [hd _ hg] at this; cases this)).keeps (hk4.toP (F := fun y => y = x.b) (by simp)) (fun e => ?_)) (pgs_get hx) rfl
          have := h.tm
          rw [e, hts] at this
          exact absurd (Option.some.inj this) (by omega)
        refine ⟨G3, by rw [h0], hL, hM, B.keeps h2 (hk4.toP (F := fun y => y = x.b) (by simp)) (fun y hy e => ?_), hG3, h3, (hk3.mono (G := fun y => G y ∨ τ y = some (3 + 2 * i)) (fun y hy => .inl (.inl hy))).step hk4 (fun y hy => .inl (.inr (by simp at hy; rw [hy]; exact hts))), hfr3⟩
        have := hG3 y hy
        rw [e, hts] at this
        cases this
      · rw [show ((B.save f.1 x.pg.id x.pg.bytes).2 != 0) = true from by simp [h0]]
        refine hR _ _ ?_
        simp only [hmc, if_neg h0]
        exact ⟨G3, by trivial, h.keeps hk3 hd, hm.keeps hk3 (fun hg => by have := h.tm; rw [hd _ hg] at this; cases this), h2, hG3, h3, hk3.mono (fun y hy => .inl (.inl hy)), hfr3⟩

end Go.Proofs.Ytelojafogbmbcaa
