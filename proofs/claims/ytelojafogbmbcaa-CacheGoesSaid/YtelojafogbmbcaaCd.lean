/- Contracts of package cache's functions: New, Pin, Unpin, Put, Has, Flush. -/
import Derived.Test.YtelojafogbmbcaaCc
set_option linter.unusedVariables false
set_option linter.unusedSimpArgs false
namespace Go.Proofs.Ytelojafogbmbcaa
open Go Go.Sx
variable {B : BkI Try.prog}

theorem Has_ok {N : Nat} {w : World} {c : Nat} {F : Nat → Prop} {ps : List (Option Pg)} {hand : Nat} (h : CaAt B N w c F ps hand) (id : Int) :
    Cl Try.prog i_cache_Cache_Has [.pointer (some ⟨c, 0, none⟩), .int .i64 id] false [.sc .b] (fun r w' => w = w' ∧ r.1 = (pidx ps id).isSome) w := by
  apply cache_Cache_Has_call
  unfold cache_Cache_Has
  obtain ⟨τ, sl, m, pl, h1, h2, rfl, hF⟩ := h
  refine Cl.mono (find_ok h1 h2 id) ?_
  rintro r _ ⟨rfl, hr⟩
  refine ⟨rfl, ?_⟩
  cases hp : pidx (pgs pl) id with
  | none => rw [hp] at hr; simp only at hr; rw [hr]; rfl
  | some i => rw [hp] at hr; simp only at hr; obtain ⟨x, _, hr⟩ := hr; rw [hr]; rfl

theorem CaAt.mono {N M : Nat} {w : World} {c : Nat} {F : Nat → Prop} {ps : List (Option Pg)} {hand : Nat} (h : CaAt B N w c F ps hand) (hN : N ≤ M) : CaAt B M w c F ps hand := by
  obtain ⟨τ, sl, m, pl, h1, h2, h3, hF⟩ := h
  exact ⟨τ, sl, m, pl, h1.mono hN, h2, h3, hF⟩

theorem Unpin_ok {N : Nat} {w : World} {c : Nat} {F : Nat → Prop} {s : CSt B} (h : CaAt B N w c F s.ps s.hand) (hN : N < 4611686018427387904) (id : Int) :
    Cl Try.prog i_cache_Cache_Unpin [.pointer (some ⟨c, 0, none⟩), .int .i64 id] false [.sc (.i .i64)]
      (fun r w' => r.1 = (mUnpin B s id).2 ∧ CaAt B N w' c F (mUnpin B s id).1.ps (mUnpin B s id).1.hand ∧ KeepsP F w w') w := by
  refine Cl_gen fun R hR => ?_
  apply cache_Cache_Unpin_call
  unfold cache_Cache_Unpin
  obtain ⟨τ, sl, m, pl, h1, h2, hps, hF⟩ := h
  refine Cl.mono (find_ok h1 h2 id) ?_
  rintro r _ ⟨rfl, hr⟩
  cases hp : pidx (pgs pl) id with
  | none =>
    rw [hp] at hr
    simp only at hr
    rw [hr]
    simp only [Jp, sx, Bool.not_false]
    refine hR _ _ ?_
    have e : mUnpin B s id = (s, 5) := by simp only [mUnpin, ← hps, hp]
    rw [e]
    exact ⟨rfl, ⟨τ, sl, m, pl, h1, h2, hps, hF⟩, KeepsP.refl _ _⟩
  | some i =>
    rw [hp] at hr
    simp only at hr
    obtain ⟨x, hx, hr⟩ := hr
    rw [hr]
    obtain ⟨t, hsb⟩ := h1.sb i x hx
    have hok := h1.ok i x hx
    have hg := pgs_get hx
    simp only [Jp, sx, sxl, hsb, pgCells, Bool.not_true, Nat.zero_add, Nat.reduceAdd]
    refine Br_of (fun hc => ?_) (fun hc => ?_)
    · have hc' : x.pg.pins = 0 := by simpa using hc
      refine hR _ _ ?_
      have e : mUnpin B s id = (s, 5) := by simp only [mUnpin, ← hps, hp, hg, hc', if_true]
      rw [e]
      exact ⟨rfl, ⟨τ, sl, m, pl, h1, h2, hps, hF⟩, KeepsP.refl _ _⟩
    · have hc' : ¬ x.pg.pins = 0 := by simpa using hc
      have hp0 := hok.pins0
      have hpN := hok.pinsN
      simp only [sxr, sxl, hsb, pgCells, Nat.zero_add, Nat.reduceAdd]
      rw [w64_in (by omega) (by omega)]
      refine set_box hsb 1 _ rfl (by simp [pgCells]) ?_
      intro w2 hb2 hk2
      refine hR _ _ ?_
      have e : mUnpin B s id = ({ s with ps := s.ps.set i (some { x.pg with pins := x.pg.pins - 1 }) }, 0) := by simp only [mUnpin, ← hps, hp, hg, if_neg hc']
      rw [e]
      have hts := h1.ts i x hx
      have hF2 : ∀ y, y ∈ [x.b] → F y := fun y hy => by simp at hy; subst hy; exact (hF _).2 (by rw [hts]; simp)
      refine ⟨rfl, ⟨τ, sl, m, _, h1.put hx { x.pg with pins := x.pg.pins - 1 } hk2 ⟨t, by rw [hb2]; simp [pgCells]⟩ rfl ⟨by simp only; omega, by simp only; omega, hok.len⟩, ?_, by rw [pgs_set, hps]; rfl, hF⟩, hk2.toP fun y hy => .inl (hF2 y hy)⟩
      rw [pgs_set]
      refine CaM.set (h2.keeps (hk2.toP (F := fun y => y = x.b) (by simp)) fun e => ?_) hg rfl
      have := h1.tm
      rw [e, hts] at this
      exact absurd (Option.some.inj this) (by omega)

theorem Put_ok {N : Nat} {w : World} {c : Nat} {F : Nat → Prop} {s : CSt B} (h : CaAt B N w c F s.ps s.hand) (id : Int) (a : Sl) (bs : List UInt8) (l : Int) (ha : SlC w a 1 (cB bs)) (hda : ∀ y ∈ blk a, ¬ F y) (hbs : bs.length ≤ 140737488355328) :
    Cl Try.prog i_cache_Cache_Put [.pointer (some ⟨c, 0, none⟩), .int .i64 id, .slice a.p a.len a.cap, .int .u64 l] false [.sc (.i .i64)]
      (fun r w' => ∃ F', r.1 = (mPut B s id bs l).2 ∧ CaAt B N w' c F' (mPut B s id bs l).1.ps (mPut B s id bs l).1.hand ∧ KeepsP F w w' ∧ Fr F F' w) w := by
  refine Cl_gen fun R hR => ?_
  apply cache_Cache_Put_call
  unfold cache_Cache_Put
  obtain ⟨τ, sl, m, pl, h1, h2, hps, hF⟩ := h
  refine Cl.mono (find_ok h1 h2 id) ?_
  rintro r _ ⟨rfl, hr⟩
  cases hp : pidx (pgs pl) id with
  | none =>
    rw [hp] at hr
    simp only at hr
    rw [hr]
    simp only [Jp, sx, Bool.not_false]
    refine hR _ _ ?_
    have e : mPut B s id bs l = (s, 5) := by simp only [mPut, ← hps, hp]
    rw [e]
    exact ⟨F, rfl, ⟨τ, sl, m, pl, h1, h2, hps, hF⟩, KeepsP.refl _ _, Fr.refl _ _⟩
  | some i =>
    rw [hp] at hr
    simp only at hr
    obtain ⟨x, hx, hr⟩ := hr
    rw [hr]
    obtain ⟨t, hsb⟩ := h1.sb i x hx
    have hok := h1.ok i x hx
    have hg := pgs_get hx
    have hts := h1.ts i x hx
    have hi := (List.getElem?_eq_some_iff.1 hx).1
    have hFx : F x.b := (hF _).2 (by rw [hts]; simp)
    refine Jp_of (fun s' w' => s' = (decide (x.pg.pins = 0), ()) ∧ w = w') ?_ ?_
    · intro J hJ
      simp only [sx, sxl, hsb, pgCells, Bool.not_true, Nat.zero_add, Nat.reduceAdd]
      exact hJ _ _ ⟨by congr 1, rfl⟩
    rintro _ _ ⟨rfl, rfl⟩
    refine Br_of (fun hc => ?_) (fun hc => ?_)
    · have hc' : x.pg.pins = 0 := by simpa using hc
      refine hR _ _ ?_
      have e : mPut B s id bs l = (s, 5) := by simp only [mPut, ← hps, hp, hg, hc', if_true]
      rw [e]
      exact ⟨F, rfl, ⟨τ, sl, m, pl, h1, h2, hps, hF⟩, KeepsP.refl _ _, Fr.refl _ _⟩
    · have hc' : ¬ x.pg.pins = 0 := by simpa using hc
      -- the LSN, of a page that was clean, is 0
      refine Jp_of (fun _ w' => Keeps [x.b] w w' ∧ w'.heap[x.b]? = some (.cells (pgCells { x with pg := { x.pg with lsn := if x.pg.dirty then x.pg.lsn else 0 } }).toArray t (0, 0))) ?_ ?_
      · intro J hJ
        simp only [sxr, sxl, hsb, pgCells, Nat.zero_add, Nat.reduceAdd]
        refine Br_of (fun hd => ?_) (fun hd => ?_)
        · have hd' : x.pg.dirty = false := by simpa using hd
          refine set_box hsb 5 _ rfl (by simp [pgCells]) ?_
          intro w2 hb2 hk2
          exact hJ _ _ ⟨hk2, by rw [hb2]; simp [pgCells, hd']⟩
        · have hd' : x.pg.dirty = true := by simpa using hd
          exact hJ _ _ ⟨Keeps.refl _ _, by rw [hsb]; simp [pgCells, hd']⟩
      rintro _ w2 ⟨hk2, hb2⟩
      simp only [pgCells] at hb2
      simp only [sxr, sxl, hb2, Nat.zero_add, Nat.reduceAdd]
      have ha2 : RdB a bs w2.drew := SlC.rdb (ha.keepsP (((KeepsP.refl F w).step hk2 (fun y hy => by simp at hy; subst hy; exact .inl hFx)).step ((Keeps.refl [] w2).drew) (by simp)) hda)
      refine Cl.mono (Clone_ok ha2 hbs) ?_
      rintro r w3 ⟨hs3, hl3, hk3', hfr3⟩
      have hk3 : Keeps [] w2 w3 := ((Keeps.refl [] w2).drew).trans hk3' (by simp)
      have hfr3 : ∀ y ∈ blk r.1, w2.heap.size ≤ y := hfr3
      have hb3 := hk3.at hb2 (by simp)
      simp only [sxr, sxl, hb3, Nat.zero_add, Nat.reduceAdd, true_and]
      refine set_box hb3 2 _ rfl (by simp) ?_
      intro w4 hb4 hk4
      simp only [List.setIfInBounds_toArray, List.set_cons_succ, List.set_cons_zero] at hb4
      refine set_box hb4 4 _ rfl (by simp) ?_
      intro w5 hb5 hk5
      simp only [List.setIfInBounds_toArray, List.set_cons_succ, List.set_cons_zero] at hb5
      refine set_box hb5 3 _ rfl (by simp) ?_
      intro w6 hb6 hk6
      simp only [List.setIfInBounds_toArray, List.set_cons_succ, List.set_cons_zero] at hb6
      refine set_box hb6 5 _ rfl (by simp) ?_
      intro w7 hb7 hk7
      simp only [List.setIfInBounds_toArray, List.set_cons_succ, List.set_cons_zero] at hb7
      have hk37 : Keeps [x.b] w3 w7 := ((hk4.trans hk5 (by simp)).trans hk6 (by simp)).trans hk7 (by simp)
      have hkx : KeepsP (fun y => y = x.b) w w7 := (((KeepsP.refl _ w).step hk2 (by simp)).step hk3 (by simp)).step hk37 (by simp)
      have hkF : KeepsP F w w7 := hkx.mono fun y hy => by subst hy; exact .inl hFx
      have hwx := hp_lt hsb
      have hz := hk2.size
      refine hR _ _ ?_
      have e : mPut B s id bs l = ({ s with ps := s.ps.set i (some { x.pg with bytes := bs, dirty := true, touched := true, lsn := if l > (if x.pg.dirty then x.pg.lsn else 0) then l else (if x.pg.dirty then x.pg.lsn else 0) }) }, 0) := by simp only [mPut, ← hps, hp, hg, if_neg hc']
      rw [e]
      have hbr : ∀ y ∈ blk r.1, y ≠ x.b := fun y hy he => by have := hfr3 y hy; omega
      have hs7 : SlC w7 r.1 1 (cB bs) := hs3.keeps hk37 (fun y hy => by simp; exact hbr y hy)
      refine ⟨fun y => F y ∨ y ∈ blk r.1, rfl, ⟨fun y => if y < w.heap.size then τ y else if y ∈ blk r.1 then some (4 + 2 * i) else none, sl, m, pl.set i (some { b := x.b, s := r.1, pg := { x.pg with bytes := bs, dirty := true, touched := true, lsn := if l > (if x.pg.dirty then x.pg.lsn else 0) then l else (if x.pg.dirty then x.pg.lsn else 0) } }), ?_, ?_, by rw [pgs_set, hps]; rfl, ?_⟩, hkF, ?_⟩
      · refine h1.upd hi _ (hkx.mono fun y hy => by subst hy; exact .inl (.inr (.inr (.inl hts)))) (fun y hy => if_pos hy) ?_ ?_ ?_
        · intro y hy
          split at hy
          · exact Nat.lt_of_lt_of_le ‹_› hkx.size
          · split at hy
            · exact hs7.lt y ‹_›
            · exact absurd rfl hy
        · have e2 : (pl.set i (some { b := x.b, s := r.1, pg := { x.pg with bytes := bs, dirty := true, touched := true, lsn := if l > (if x.pg.dirty then x.pg.lsn else 0) then l else (if x.pg.dirty then x.pg.lsn else 0) } })).map ptr = pl.map ptr := by
            rw [List.map_set]
            exact set_self (by rw [List.getElem?_map, hx]; rfl)
          rw [e2]
          exact h1.row.keepsP hkx fun y hy he => by have := h1.tr y hy; rw [he, hts] at this; exact absurd (Option.some.inj this) (by omega)
        · intro y hy
          cases hy
          refine ⟨⟨t, by rw [hb7]; rfl⟩, hs7, ⟨hok.pins0, hok.pinsN, hbs⟩, by rw [if_pos hwx]; exact hts, fun y hy => ?_⟩
          have := hfr3 y hy
          rw [if_neg (by omega), if_pos hy]
      · rw [pgs_set]
        refine CaM.set (h2.keeps hkx fun e => ?_) hg rfl
        have := h1.tm
        rw [e, hts] at this
        exact absurd (Option.some.inj this) (by omega)
      · intro y
        dsimp only
        by_cases hy : y < w.heap.size
        · rw [if_pos hy]
          constructor
          · rintro (h' | h')
            · exact (hF y).1 h'
            · have := hfr3 y h'; omega
          · exact fun h' => .inl ((hF y).2 h')
        · rw [if_neg hy]
          have : ¬ F y := fun h' => hy (h1.tl y ((hF y).1 h'))
          simp [this]
      · intro y hy
        rcases hy with hy | hy
        · exact .inl hy
        · right
          have := hfr3 y hy
          omega

/-! ### Pin -/
theorem pidx_no {ps : List (Option Pg)} {id : Int} : pidx ps id = none ↔ ∀ (i : Nat) (p : Pg), ps[i]? = some (some p) → p.id ≠ id := by
  constructor
  · exact fun h i p hp => pidx_none h hp
  · intro h
    cases hq : pidx ps id with
    | none => rfl
    | some i => obtain ⟨p, h1, h2⟩ := pidx_some hq; exact absurd h2 (h i p h1)

theorem sweep_ids (id : Int) : ∀ (n : Nat) (s : CSt B), pidx s.ps id = none → pidx (sweep B n s).1.ps id = none
  | 0, s, h => h
  | n + 1, s, h => by
    unfold sweep
    split
    · rename_i p hp
      simp only
      split
      · exact sweep_ids id n _ h
      · split
        · refine sweep_ids id n _ ?_
          rw [pidx_no] at h ⊢
          intro j q hq
          simp only at hq
          by_cases hj : s.hand = j
          · subst hj
            rw [List.getElem?_set_self (List.getElem?_eq_some_iff.1 hp).1] at hq
            cases hq
            exact h _ p hp
          · rw [List.getElem?_set_ne hj] at hq
            exact h j q hq
        · split
          · simp only
            rw [pidx_no] at h ⊢
            intro j q hq
            by_cases hj : s.hand = j
            · subst hj
              rw [List.getElem?_set_self (List.getElem?_eq_some_iff.1 hp).1] at hq
              cases hq
            · rw [List.getElem?_set_ne hj] at hq
              exact h j q hq
          · exact h
    · exact h

theorem room_ids {s : CSt B} {id : Int} (h : pidx s.ps id = none) : pidx (mRoom B s).1.ps id = none := by
  unfold mRoom
  split
  · exact h
  · split
    · exact sweep_ids id _ s h
    · exact h

theorem CaM.add {w w' : World} {m : Nat} {ps : List (Option Pg)} (h : CaM w m ps) {kv : List (Int × Value)} (h2 : ∀ id, aget id kv = (pidx ps id).map fun (i : Nat) => Value.int .i64 i) {i : Nat} {p : Pg} (hi : ps[i]? = some none) (hp : pidx ps p.id = none)
    (hw : MpR w' m (Value.int .i64) (aset p.id (.int .i64 (i : Int)) kv)) : CaM w' m (ps.set i (some p)) := by
  have hlt := (List.getElem?_eq_some_iff.1 hi).1
  have key : ∀ (j : Nat) (q : Pg), (ps.set i (some p))[j]? = some (some q) ↔ (j = i ∧ q = p) ∨ ps[j]? = some (some q) := by
    intro j q
    by_cases hj : i = j
    · subst hj
      rw [List.getElem?_set_self hlt, hi]
      simp [eq_comm]
    · rw [List.getElem?_set_ne hj]
      simp [Ne.symm hj]
  have uq' : ∀ (a b : Nat) (x y : Pg), (ps.set i (some p))[a]? = some (some x) → (ps.set i (some p))[b]? = some (some y) → x.id = y.id → a = b := by
    intro a b x y hx hy he
    rcases (key a x).1 hx with ⟨rfl, rfl⟩ | hx'
    · rcases (key b y).1 hy with ⟨rfl, _⟩ | hy'
      · rfl
      · exact absurd he.symm (pidx_no.1 hp b y hy')
    · rcases (key b y).1 hy with ⟨rfl, rfl⟩ | hy'
      · exact absurd he (pidx_no.1 hp a x hx')
      · exact h.uq a b x y hx' hy' he
  refine ⟨⟨_, hw, fun id => ?_⟩, uq'⟩
  rw [aget_aset, h2]
  by_cases he : id = p.id
  · rw [if_pos he]
    have : pidx (ps.set i (some p)) id = some i := (pidx_iff uq' id i).2 ⟨p, (key i p).2 (.inl ⟨rfl, rfl⟩), he.symm⟩
    rw [this]
    rfl
  · rw [if_neg he]
    congr 1
    apply Option.ext
    intro j
    rw [pidx_iff h.uq, pidx_iff uq']
    constructor
    · rintro ⟨q, h3, h4⟩
      exact ⟨q, (key j q).2 (.inr h3), h4⟩
    · rintro ⟨q, h3, h4⟩
      rcases (key j q).1 h3 with ⟨rfl, rfl⟩ | h5
      · exact absurd h4.symm he
      · exact ⟨q, h5, h4⟩

theorem Pin_ok {N : Nat} {w : World} {c : Nat} {F G : Nat → Prop} {s : CSt B} (h : CaAt B N w c F s.ps s.hand) (hb : B.At w G s.b) (hd : Dj F G) {n : Nat} (hr : B.rest s.b (n + 3)) (hN : N < 4611686018427387904) (id : Int) :
    Cl Try.prog i_cache_Cache_Pin [.pointer (some ⟨c, 0, none⟩), .int .i64 id] true [.sc .sl, .sc (.i .i64)]
      (fun r w' => ∃ F' G', r.2.1 = (mPin B s id).2.2 ∧ CaAt B (N + 1) w' c F' (mPin B s id).1.ps (mPin B s id).1.hand ∧ B.At w' G' (mPin B s id).1.b ∧ Dj F' G' ∧ B.rest (mPin B s id).1.b n ∧ SlC w' r.1 1 (cB (mPin B s id).2.1) ∧
        KeepsP (fun y => F y ∨ G y) w w' ∧ Fr F F' w ∧ Fr G G' w ∧ ∀ x ∈ blk r.1, w.heap.size ≤ x ∧ ¬ F' x ∧ ¬ G' x) w := by
  refine Cl_gen fun R hR => ?_
  apply cache_Cache_Pin_call
  unfold cache_Cache_Pin
  have hblF := h.bl
  have hblG := B.bl hb
  obtain ⟨τ, sl, m, pl, h1, h2, hps, hF⟩ := h
  refine Cl.mono (find_ok h1 h2 id) ?_
  rintro r _ ⟨rfl, hr1⟩
  have hGτ : ∀ x, G x → τ x = none := fun x hx => by
    cases ht : τ x with
    | none => rfl
    | some k => exact absurd hx (hd x ((hF x).2 (by rw [ht]; simp)))
  cases hp : pidx (pgs pl) id with
  | some i =>
    rw [hp] at hr1
    simp only at hr1
    obtain ⟨x, hx, hr1⟩ := hr1
    rw [hr1]
    obtain ⟨t, hsb⟩ := h1.sb i x hx
    have hok := h1.ok i x hx
    have hg := pgs_get hx
    have hts := h1.ts i x hx
    have hFx : F x.b := (hF _).2 (by rw [hts]; simp)
    have hp0 := hok.pins0
    have hpN := hok.pinsN
    simp only [sxr, sxl, hsb, pgCells, Nat.zero_add, Nat.reduceAdd]
    rw [w64_in (by omega) (by omega)]
    refine set_box hsb 1 _ rfl (by simp [pgCells]) ?_
    intro w2 hb2 hk2
    simp only [pgCells, List.setIfInBounds_toArray, List.set_cons_succ, List.set_cons_zero] at hb2
    refine set_box hb2 3 _ rfl (by simp) ?_
    intro w3 hb3 hk3
    simp only [List.setIfInBounds_toArray, List.set_cons_succ, List.set_cons_zero] at hb3
    simp only [sxr, sxl, hb3, Nat.zero_add, Nat.reduceAdd]
    have hk23 : Keeps [x.b] w w3 := hk2.trans hk3 (by simp)
    have hL := (h1.mono (Nat.le_succ N)).put hx { x.pg with pins := x.pg.pins + 1, touched := true } hk23 ⟨t, by rw [hb3]; simp [pgCells]⟩ rfl ⟨by simp only; omega, by simp only; omega, hok.len⟩
    have hM : CaM w3 m (pgs (pl.set i (some { x with pg := { x.pg with pins := x.pg.pins + 1, touched := true } }))) := by
      rw [pgs_set]
      refine CaM.set (h2.keeps (hk23.toP (F := fun y => y = x.b) (by simp)) fun e => ?_) hg rfl
      have := h1.tm
      rw [e, hts] at this
      exact absurd (Option.some.inj this) (by omega)
    have hs3 : SlC w3 x.s 1 (cB x.pg.bytes) := hL.sy i { x with pg := { x.pg with pins := x.pg.pins + 1, touched := true } } (List.getElem?_set_self (List.getElem?_eq_some_iff.1 hx).1)
    refine Cl.mono (Clone_ok hs3.rdb hok.len) ?_
    rintro r4 w4 ⟨hs4, hl4, hk4, hfr4⟩
    refine hR _ _ ?_
    have e : mPin B s id = ({ s with ps := s.ps.set i (some { x.pg with pins := x.pg.pins + 1, touched := true }) }, x.pg.bytes, 0) := by simp only [mPin, ← hps, hp, hg]
    rw [e]
    have hz := hk23.size
    refine ⟨F, G, rfl, ⟨τ, sl, m, _, hL.keeps (G := fun _ => False) (hk4.toP (by simp)) (fun _ h => h.elim), hM.keeps (G := fun _ => False) (hk4.toP (by simp)) (fun h => h), by rw [pgs_set, hps]; rfl, hF⟩,
      B.keeps hb (((KeepsP.refl (fun y => y = x.b) w).step hk23 (by simp)).step hk4 (by simp)) (fun y hy e => hd y (by rw [e]; exact hFx) hy), hd, B.restM hr (by omega), hs4, ((KeepsP.refl _ w).step hk23 (fun y hy => by simp at hy; subst hy; exact .inl (.inl hFx))).step hk4 (by simp), Fr.refl _ _, Fr.refl _ _, fun y hy => ?_⟩
    have := hfr4 y hy
    exact ⟨by omega, fun hf => by have := hblF y hf; omega, fun hg => by have := hblG y hg; omega⟩
  | none =>
    rw [hp] at hr1
    simp only at hr1
    rw [hr1]
    simp only [sx]
    refine Cl.mono (room_ok h1 h2 hb hGτ (n := n + 1) hr) ?_
    rintro r w2 ⟨G2, pl2, hr2, hps2, hL2, hM2, hB2, hG2, hrest2, hk2, hfr2, hfree⟩
    have hs' : (⟨pgs pl, s.hand, s.b⟩ : CSt B) = s := by rw [hps]
    rw [hs'] at hr2 hps2 hL2 hB2 hrest2 hfree
    rw [hr2]
    have hkF2 : KeepsP (fun y => F y ∨ G y) w w2 := hk2.mono fun y hy => by rcases hy with hy | hy; exact .inl (.inr hy); exact .inl (.inl ((hF y).2 hy))
    have hdj2 : Dj F G2 := fun y hy hg => by have := hG2 y hg; exact (hF y).1 hy this
    by_cases h0 : (mRoom B s).2.2 = 0
    · rw [show ((mRoom B s).2.2 != 0) = false from by simp [h0]]
      obtain ⟨i, hi1, hi2⟩ := hfree h0
      obtain ⟨t2, hbox2⟩ := hL2.box
      simp only [sx, sxl, hbox2, Nat.zero_add, Nat.reduceAdd]
      refine Inv.mono (B.load_ok id hB2 hrest2) ?_
      rintro r3 w3 ⟨G3, hr3, hB3, hrest3, hs3, hk3, hfr3, hbk3⟩
      rw [hr3]
      have hL3 := hL2.keeps hk3 hG2
      have hM3 := hM2.keeps hk3 (fun hg => by have := hG2 m hg; rw [hL2.tm] at this; cases this)
      have hG3 : ∀ y, G3 y → τ y = none := fun y hy => by
        rcases hfr3 y hy with h' | h'
        · exact hG2 y h'
        · cases ht : τ y with
          | none => rfl
          | some k => have := hL2.tl y (by rw [ht]; simp); omega
      have hkF3 : KeepsP (fun y => F y ∨ G y) w w3 := hkF2.trans hk3 (fun y hy => by rcases hfr2 y hy with h' | h'; exact .inl (.inr h'); exact .inr h')
      have hfrG3 : Fr G G3 w := hfr2.trans hfr3 hk2.size
      have hlen := B.load_len (mRoom B s).1.b id
      by_cases h00 : (B.load (mRoom B s).1.b id).2.1 = 0
      · rw [show ((B.load (mRoom B s).1.b id).2.1 != 0) = false from by simp [h00]]
        obtain ⟨t3, hbox3⟩ := hL3.box
        simp only [sxr, sxl, hbox3, Nat.zero_add, Nat.reduceAdd]
        have hs3d : SlC w3.drew r3.1 1 (cB (B.load (mRoom B s).1.b id).2.2) := hs3.keeps ((Keeps.refl [] w3).drew) (by simp)
        refine Cl.mono (Clone_ok hs3d.rdb hlen) ?_
        rintro r4 w4 ⟨hs4, hl4, hk4', hfr4⟩
        have hk4 : Keeps [] w3 w4 := ((Keeps.refl [] w3).drew).trans hk4' (by simp)
        have hfr4 : ∀ y ∈ blk r4.1, w3.heap.size ≤ y := hfr4
        have hbox4 := hk4.at hbox3 (by simp)
        have hc4 := hp_lt hbox4
        simp (disch := ((try simp only [sx]); first | done | omega)) only [sxr, sxc, sxl, hbox4, Nat.zero_add, Nat.reduceAdd, true_and]
        obtain ⟨a, ha⟩ : ∃ a, w4.heap.size = a := ⟨_, rfl⟩
        rw [ha]
        obtain ⟨w5, hw5⟩ : ∃ w5, w4.alloc (.cells #[.int .i64 id, .int .i64 1, .slice r4.1.p r4.1.len r4.1.cap, .bool true, .bool false, .int .u64 0] 73) = w5 := ⟨_, rfl⟩
        rw [hw5]
        have hk5 : Keeps [] w4 w5 := by rw [← hw5]; exact (Keeps.refl [] w4).alloc _
        have ha5 : w5.heap[a]? = some (.cells #[.int .i64 id, .int .i64 1, .slice r4.1.p r4.1.len r4.1.cap, .bool true, .bool false, .int .u64 0] 73 (0, 0)) := by rw [← hw5]; exact hp_alloc_eq _ _ ha.symm
        have hz5 : w5.heap.size = a + 1 := by rw [← hw5, World.size_alloc, ha]
        have hk35 : Keeps [] w3 w5 := hk4.trans hk5 (by simp)
        have hz3 := hk4.size
        have hL5 := hL3.keeps (G := fun _ => False) (hk35.toP (by simp)) (fun _ h => h.elim)
        have hM5 := hM3.keeps (G := fun _ => False) (hk35.toP (by simp)) (fun h => h)
        have hsl5 := hL5.slen
        have hil := (List.getElem?_eq_some_iff.1 hi2).1
        obtain ⟨b, o', hpb, _⟩ := hL5.row.base (by omega)
        have hbr : τ b = some 1 := hL5.tr b (by rw [blk_pos (by have := hL5.row.cap; omega) hpb]; simp)
        rw [hi1, Ix_base hpb (by omega) (by omega), Int.toNat_natCast, Nat.mul_one]
        refine hL5.row.write hpb (by simp; omega) (v := .pointer (some ⟨a, 0, none⟩)) rfl ?_
        intro w6 hrow6 hk6
        have ltτ : ∀ {y k}, τ y = some k → y < w3.heap.size := fun hy => hL3.tl _ (by rw [hy]; simp)
        have nb : ∀ {y k}, τ y = some k → k ≠ 1 → y ∉ [b] := fun hy hk hm => by simp at hm; subst hm; rw [hbr] at hy; cases hy; exact hk rfl
        have hM6 := hM5.keeps (hk6.toP (F := fun y => y ∈ [b]) (fun y hy => .inl hy)) (nb hL3.tm (by omega))
        obtain ⟨kv, hkv, hkv2⟩ := hM6.mp
        refine MEnt_of (keyOk_int _) hkv id _ _ ?_
        intro w7 hkv7 hk7
        have hblt := ltτ hbr
        have hmlt := ltτ hL3.tm
        have hk37 : KeepsP (fun y => τ y = some 1 ∨ τ y = some 2) w3 w7 := (((KeepsP.refl _ w3).step hk35 (by simp)).step hk6 (fun y hy => by simp at hy; subst hy; exact .inl (.inl hbr))).step hk7 (fun y hy => by simp at hy; subst hy; exact .inl (.inr hL3.tm))
        have hk57 : KeepsP (fun y => τ y = some 1 ∨ τ y = some 2) w5 w7 := ((KeepsP.refl _ w5).step hk6 (fun y hy => by simp at hy; subst hy; exact .inl (.inl hbr))).step hk7 (fun y hy => by simp at hy; subst hy; exact .inl (.inr hL3.tm))
        have nτ : ∀ {y}, w3.heap.size ≤ y → ¬ (τ y = some 1 ∨ τ y = some 2) := fun hy h => by rcases h with h | h <;> (have := ltτ h; omega)
        have hs7 : SlC w7 r3.1 1 (cB (B.load (mRoom B s).1.b id).2.2) := hs3.keepsP hk37 fun y hy h => by
          have := (hbk3 y hy).1
          rcases h with h | h <;> (have := hL2.tl y (by rw [h]; simp); omega)
        refine Cl.mono (Clone_ok hs7.rdb hlen) ?_
        rintro r8 w8 ⟨hs8, hl8, hk8, hfr8⟩
        refine hR _ _ ?_
        have e : mPin B s id = ({ (mRoom B s).1 with ps := (mRoom B s).1.ps.set (mRoom B s).2.1.toNat (some ⟨id, 1, (B.load (mRoom B s).1.b id).2.2, true, false, 0⟩), b := (B.load (mRoom B s).1.b id).1 }, (B.load (mRoom B s).1.b id).2.2, 0) := by simp only [mPin, ← hps, hp]; simp only [h0, h00, if_true]
        rw [e]
        have hit : (mRoom B s).2.1.toNat = i := by rw [hi1]; rfl
        simp only [hit]
        have ha7 := hk57.at ha5 (nτ (by omega))
        have hs47 : SlC w7 r4.1 1 (cB (B.load (mRoom B s).1.b id).2.2) := (hs4.keeps hk5 (by simp)).keepsP hk57 fun y hy => nτ (hfr4 y hy)
        have hlt47 : ∀ y ∈ blk r4.1, y < a := fun y hy => by have := hs4.lt y hy; omega
        have hL7 : CaL B.v (N + 1) w7 c (fun y => if y < w3.heap.size then τ y else if y = a then some (3 + 2 * i) else if y ∈ blk r4.1 then some (4 + 2 * i) else none) sl m
            (pl2.set i (some ⟨a, r4.1, ⟨id, 1, (B.load (mRoom B s).1.b id).2.2, true, false, 0⟩⟩)) (mRoom B s).1.hand := by
          refine (hL3.mono (Nat.le_succ N)).upd hil _ (hk37.mono fun y hy => .inl (by rcases hy with h | h; exact .inl h; exact .inr (.inl h))) (fun y hy => if_pos hy) ?_ ?_ ?_
          · intro y hy
            split at hy
            · exact Nat.lt_of_lt_of_le ‹_› hk37.size
            · split at hy
              · rename_i h; rw [h]; exact hp_lt ha7
              · split at hy
                · exact hs47.lt y ‹_›
                · exact absurd rfl hy
          · rw [List.map_set]
            exact hrow6.keeps hk7 (fun y hy hm => by simp at hm; have := hL3.tr y hy; rw [hm, hL3.tm] at this; cases this)
          · intro y hy
            cases hy
            refine ⟨⟨73, ha7⟩, hs47, ⟨by show (0 : Int) ≤ 1; omega, by show (1 : Int) ≤ ((N + 1 : Nat) : Int); omega, hlen⟩, ?_, fun y hy => ?_⟩
            · show (if a < w3.heap.size then _ else _) = _
              rw [if_neg (by omega), if_pos rfl]
            · have := hfr4 y hy
              have := hlt47 y hy
              rw [if_neg (by omega), if_neg (by omega), if_pos hy]
        have hM7 : CaM w7 m (pgs (pl2.set i (some ⟨a, r4.1, ⟨id, 1, (B.load (mRoom B s).1.b id).2.2, true, false, 0⟩⟩))) := by
          rw [pgs_set]
          refine CaM.add hM6 hkv2 (by simp [pgs, hi2]) ?_ hkv7
          rw [hps2]
          exact room_ids (by rw [← hps]; exact hp)
        have hB7 : B.At w7 G3 (B.load (mRoom B s).1.b id).1 := B.keeps hB3 hk37 fun y hy h => by have := hG3 y hy; rw [this] at h; simp at h
        have hwz : w.heap.size ≤ w3.heap.size := hkF3.size
        have hk38 := hk8.size
        have h37 := hk37.size
        have hblG3 := B.bl hB3
        refine ⟨fun y => F y ∨ y = a ∨ y ∈ blk r4.1, G3, (by trivial), ⟨_, sl, m, _, hL7.keeps (G := fun _ => False) (hk8.toP (by simp)) (fun _ h => h.elim), hM7.keeps (G := fun _ => False) (hk8.toP (by simp)) (fun h => h), by rw [pgs_set, hps2]; rfl, ?_⟩,
          B.keeps hB7 (hk8.toP (F := fun _ => False) (by simp)) (fun _ _ h => h), ?_, hrest3, hs8, (hkF3.trans hk37 (fun y hy => .inl (.inl ((hF y).2 (by rcases hy with h | h <;> (rw [h]; simp)))))).step hk8 (by simp), ?_, hfrG3, ?_⟩
        · intro y
          simp only
          by_cases hy : y < w3.heap.size
          · rw [if_pos hy]
            constructor
            · rintro (h' | rfl | h')
              · exact (hF y).1 h'
              · omega
              · have := hfr4 y h'; omega
            · exact fun h' => .inl ((hF y).2 h')
          · rw [if_neg hy]
            have : ¬ F y := fun h' => by have := hblF y h'; omega
            by_cases hya : y = a
            · simp [hya]
            · simp [this, hya]
        · intro y hy hg
          have := hblG3 y hg
          rcases hy with hy | rfl | hy
          · exact (hF y).1 hy (hG3 y hg)
          · omega
          · have := hfr4 y hy; omega
        · intro y hy
          rcases hy with hy | rfl | hy
          · exact .inl hy
          · right; omega
          · have := hfr4 y hy; right; omega
        · intro y hy
          have h8 := hfr8 y hy
          have ha8 := hp_lt ha7
          refine ⟨by omega, ?_, fun hg => by have := hblG3 y hg; omega⟩
          rintro (h' | rfl | h')
          · have := hblF y h'; omega
          · omega
          · have := hlt47 y h'; omega
      · rw [show ((B.load (mRoom B s).1.b id).2.1 != 0) = true from by simp [h00]]
        refine hR _ _ ?_
        have e : mPin B s id = ({ (mRoom B s).1 with b := (B.load (mRoom B s).1.b id).1 }, [], (B.load (mRoom B s).1.b id).2.1) := by simp only [mPin, ← hps, hp]; simp only [h0, h00, if_true, if_false]
        rw [e]
        refine ⟨F, G3, rfl, ⟨τ, sl, m, pl2, hL3.mono (Nat.le_succ N), hM3, hps2, hF⟩, hB3, fun y hy hg => (hF y).1 hy (hG3 y hg), B.restM hrest3 (Nat.le_refl _), SlC.nil _ _, hkF3, Fr.refl _ _, hfrG3, by simp [blk]⟩
    · rw [show ((mRoom B s).2.2 != 0) = true from by simp [h0]]
      refine hR _ _ ?_
      have e : mPin B s id = ((mRoom B s).1, [], (mRoom B s).2.2) := by simp only [mPin, ← hps, hp]; simp only [h0, if_false]
      rw [e]
      exact ⟨F, G2, rfl, ⟨τ, sl, m, pl2, hL2.mono (Nat.le_succ N), hM2, hps2, hF⟩, hB2, hdj2, B.restM hrest2 (by omega), SlC.nil _ _, hkF2, Fr.refl _ _, hfr2, by simp [blk]⟩

end Go.Proofs.Ytelojafogbmbcaa
