/- Contracts of package cache's functions: room. -/
import Derived.Test.YtelojafogbmbcaaCb
set_option linter.unusedVariables false
set_option linter.unusedSimpArgs false
namespace Go.Proofs.Ytelojafogbmbcaa
open Go Go.Sx
variable {B : BkI Try.prog}

theorem findIdx_go {α : Type} {p : α → Bool} {l : List α} {i : Nat} {a : α} (h : l[i]? = some a) (hp : p a = true) (hb : ∀ j b, j < i → l[j]? = some b → p b = false) : l.findIdx? p = some i := by
  have hi := (List.getElem?_eq_some_iff.1 h).1
  rw [List.findIdx?_eq_some_iff_getElem]
  refine ⟨hi, by rw [(List.getElem?_eq_some_iff.1 h).2]; exact hp, fun j hj => ?_⟩
  have := hb j l[j] hj (List.getElem?_eq_getElem (by omega))
  simp [this]

def oidx : Option Nat → Int
  | some i => i
  | none => -1

theorem Index_ok {N : Nat} {w : World} {c : Nat} {τ : Tau} {sl : Sl} {m : Nat} {pl : List (Option Slot)} {hand : Nat} (h : CaL B.v N w c τ sl m pl hand) :
    Cl Try.prog i_slices_Index [.slice sl.p sl.len sl.cap, .pointer none] false [.sc (.i .i64)]
      (fun r w' => w = w' ∧ r.1 = oidx ((pgs pl).findIdx? isNo)) w := by
  apply slices_Index_call
  unfold slices_Index
  have hl := h.slen
  have hln := h.ln
  refine ⟨fun n s w' => w = w' ∧ ∃ i : Nat, s = (0, (i : Int), ()) ∧ i ≤ pl.length ∧ n = pl.length - i ∧ ∀ j b, j < i → (pgs pl)[j]? = some b → isNo b = false, ⟨pl.length, rfl, 0, rfl, by omega, by omega, fun j b hj => by omega⟩, ?_⟩
  rintro n _ _ ⟨rfl, i, rfl, hi, rfl, hb⟩
  dsimp only
  rw [hl]
  by_cases hil : i < pl.length
  · rw [decide_eq_true (by omega)]
    simp only [sx]
    obtain ⟨o, ho⟩ : ∃ o, pl[i]? = some o := ⟨_, List.getElem?_eq_getElem hil⟩
    refine h.rd ho ?_
    have hg : (pgs pl)[i]? = some (o.map Slot.pg) := by simp [pgs, ho]
    cases o with
    | none =>
      simp only [Option.map_none, PtrE, Option.isNone_none, sx]
      refine ⟨by trivial, ?_⟩
      rw [findIdx_go hg rfl hb]
      rfl
    | some x =>
      simp only [Option.map_some, PtrE, sx]
      rw [show w64 ((i : Int) + 1) = ((i + 1 : Nat) : Int) from w64_nat (n := i + 1) (by omega)]
      refine ⟨pl.length - (i + 1), by omega, (by trivial), i + 1, rfl, by omega, rfl, fun j b hj hjb => ?_⟩
      rcases Nat.lt_or_ge j i with h' | h'
      · exact hb j b h' hjb
      · have : j = i := by omega
        subst this
        rw [hg] at hjb
        cases hjb
        rfl
  · rw [decide_eq_false (by omega)]
    simp only [sx]
    refine ⟨by trivial, ?_⟩
    have : (pgs pl).findIdx? isNo = none := by
      rw [List.findIdx?_eq_none_iff]
      intro b hbm
      obtain ⟨j, hj⟩ := List.mem_iff_getElem?.1 hbm
      have hjl := (List.getElem?_eq_some_iff.1 hj).1
      rw [pgs_length] at hjl
      exact hb j b (by omega) hj
    rw [this]
    rfl

theorem free_ok {N : Nat} {w : World} {c : Nat} {τ : Tau} {sl : Sl} {m : Nat} {pl : List (Option Slot)} {hand : Nat} (h : CaL B.v N w c τ sl m pl hand) {i : Nat} {x : Slot} (hx : pl[i]? = some (some x)) :
    Cl Try.prog i_cache_Cache_room_1 [.pointer (some ⟨x.b, 0, none⟩)] false [.sc .b] (fun r w' => w = w' ∧ r.1 = isFree (some x.pg)) w := by
  apply cache_Cache_room_1_call
  unfold cache_Cache_room_1
  obtain ⟨t, hb⟩ := h.sb i x hx
  simp only [sx, sxl, hb, pgCells, Nat.zero_add, Nat.reduceAdd]
  exact ⟨by trivial, rfl⟩

theorem Contains_ok {N : Nat} {w : World} {c : Nat} {τ : Tau} {sl : Sl} {m : Nat} {pl : List (Option Slot)} {hand : Nat} (h : CaL B.v N w c τ sl m pl hand) (hall : ∀ o ∈ pl, o ≠ none) :
    Cl Try.prog i_slices_ContainsFunc [.slice sl.p sl.len sl.cap, .func (.func i_cache_Cache_room_1) #[] #[]] false [.sc .b] (fun r w' => w = w' ∧ r.1 = (pgs pl).any isFree) w := by
  apply slices_ContainsFunc_call
  unfold slices_ContainsFunc
  refine Cl.mono (K := fun (r : TR [.sc (.i .i64)]) w' => w = w' ∧ decide (r.1 ≥ 0) = (pgs pl).any isFree) ?_ (fun r w' h => h)
  apply slices_IndexFunc_call
  unfold slices_IndexFunc
  have hl := h.slen
  have hln := h.ln
  refine ⟨fun n s w' => w = w' ∧ ∃ i : Nat, s = (0, (i : Int), ()) ∧ i ≤ pl.length ∧ n = pl.length - i ∧ ∀ j b, j < i → (pgs pl)[j]? = some b → isFree b = false, ⟨pl.length, rfl, 0, rfl, by omega, by omega, fun j b hj => by omega⟩, ?_⟩
  rintro n _ _ ⟨rfl, i, rfl, hi, rfl, hb⟩
  dsimp only
  rw [hl]
  by_cases hil : i < pl.length
  · rw [decide_eq_true (by omega)]
    simp only [sx]
    obtain ⟨o, ho⟩ : ∃ o, pl[i]? = some o := ⟨_, List.getElem?_eq_getElem hil⟩
    refine h.rd ho ?_
    cases o with
    | none => exact absurd rfl (hall _ (List.mem_of_getElem? ho))
    | some x =>
      have hg : (pgs pl)[i]? = some (some x.pg) := by simp [pgs, ho]
      refine Cl.mono (free_ok h ho) ?_
      rintro r _ ⟨rfl, hr⟩
      rw [hr]
      cases hf : isFree (some x.pg) with
      | true =>
        simp only [sx]
        refine ⟨by trivial, ?_⟩
        show decide ((i : Int) ≥ 0) = _
        rw [decide_eq_true (by omega)]
        exact (List.any_eq_true.2 ⟨_, List.mem_of_getElem? hg, hf⟩).symm
      | false =>
        simp only [sx]
        rw [show w64 ((i : Int) + 1) = ((i + 1 : Nat) : Int) from w64_nat (n := i + 1) (by omega)]
        refine ⟨pl.length - (i + 1), by omega, (by trivial), i + 1, rfl, by omega, rfl, fun j b hj hjb => ?_⟩
        rcases Nat.lt_or_ge j i with h' | h'
        · exact hb j b h' hjb
        · have : j = i := by omega
          subst this
          rw [hg] at hjb
          cases hjb
          exact hf
  · rw [decide_eq_false (by omega)]
    simp only [sx]
    refine ⟨by trivial, ?_⟩
    have : (pgs pl).any isFree = false := by
      rw [List.any_eq_false]
      intro b hbm
      obtain ⟨j, hj⟩ := List.mem_iff_getElem?.1 hbm
      have hjl := (List.getElem?_eq_some_iff.1 hj).1
      rw [pgs_length] at hjl
      simp [hb j b (by omega) hj]
    rw [this]
    rfl

/-! ### the sweep ends -/
theorem mod_succ {h L : Nat} (hL : 0 < L) (hh : h < L) (d : Nat) (hd : 0 < d) : ((h + 1) % L + (d - 1)) % L = (h + d) % L := by
  rw [Nat.mod_add_mod]
  congr 1
  omega

theorem ends_of (n : Nat) : ∀ (s : CSt B) (j d : Nat) (p : Pg), 0 < s.ps.length → s.hand < s.ps.length → (∀ o ∈ s.ps, o ≠ none) → s.ps[j]? = some (some p) → p.pins = 0 → (s.hand + d) % s.ps.length = j → d < s.ps.length →
    d + 1 + (if p.touched then s.ps.length else 0) ≤ n → Ends B n s := by
  induction n with
  | zero => intro s j d p _ _ _ _ _ _ _ hn; omega
  | succ n ih =>
    intro s j d p hL hh hall hj hp hd hdl hn
    unfold Ends
    obtain ⟨o, ho⟩ : ∃ o, s.ps[s.hand]? = some o := ⟨_, List.getElem?_eq_getElem hh⟩
    cases o with
    | none => exact absurd rfl (hall _ (List.mem_of_getElem? ho))
    | some q =>
      rw [ho]
      simp only
      have hlt : (s.hand + 1) % s.ps.length < s.ps.length := Nat.mod_lt _ hL
      by_cases h0 : d = 0
      · subst h0
        rw [Nat.add_zero, Nat.mod_eq_of_lt hh] at hd
        subst hd
        rw [hj] at ho
        cases ho
        rw [if_neg (by omega)]
        cases ht : p.touched with
        | false => simp
        | true =>
          simp only [if_true]
          rw [ht] at hn
          simp only [if_true] at hn
          refine ih _ s.hand (s.ps.length - 1) { p with touched := false } (by simpa using hL) (by simpa using hlt) (fun o ho => ?_) (by simp [hh]) hp ?_ (by simp; omega) (by simp; omega)
          · rcases List.mem_or_eq_of_mem_set ho with h' | h'
            · exact hall o h'
            · rw [h']; simp
          · simp only [List.length_set]
            rw [Nat.mod_add_mod, show s.hand + 1 + (s.ps.length - 1) = s.hand + s.ps.length from by omega, Nat.add_mod_right, Nat.mod_eq_of_lt hh]
      · have hne : s.hand ≠ j := by
          intro he
          rw [← he] at hd
          rcases Nat.lt_or_ge (s.hand + d) s.ps.length with h' | h'
          · rw [Nat.mod_eq_of_lt h'] at hd; omega
          · rw [Nat.mod_eq_sub_mod h', Nat.mod_eq_of_lt (by omega)] at hd; omega
        split
        · exact ih _ j (d - 1) p hL hlt hall hj hp (by rw [← hd]; exact mod_succ hL hh d (by omega)) (by simp only; omega) (by simp only; omega)
        · split
          · refine ih _ j (d - 1) p (by simpa using hL) (by simpa using hlt) (fun o ho => ?_) (by simp only; rw [List.getElem?_set_ne hne]; exact hj) hp ?_ (by simp; omega) (by simp; omega)
            · rcases List.mem_or_eq_of_mem_set ho with h' | h'
              · exact hall o h'
              · rw [h']; simp
            · simp only [List.length_set]
              rw [← hd]; exact mod_succ hL hh d (by omega)
          · trivial

theorem ends_any {s : CSt B} (hh : s.hand < s.ps.length) (hall : ∀ o ∈ s.ps, o ≠ none) (hf : s.ps.any isFree = true) : Ends B (2 * s.ps.length + 1) s := by
  obtain ⟨o, ho, hfo⟩ := List.any_eq_true.1 hf
  obtain ⟨j, hj⟩ := List.mem_iff_getElem?.1 ho
  cases o with
  | none => cases hfo
  | some p =>
    have hjl := (List.getElem?_eq_some_iff.1 hj).1
    have hp : p.pins = 0 := by simpa [isFree] using hfo
    rcases Nat.lt_or_ge j s.hand with h' | h'
    · refine ends_of _ s j (j + s.ps.length - s.hand) p (by omega) hh hall hj hp ?_ (by omega) (by split <;> omega)
      rw [show s.hand + (j + s.ps.length - s.hand) = j + s.ps.length from by omega, Nat.add_mod_right, Nat.mod_eq_of_lt hjl]
    · refine ends_of _ s j (j - s.hand) p (by omega) hh hall hj hp ?_ (by omega) (by split <;> omega)
      rw [show s.hand + (j - s.hand) = j from by omega, Nat.mod_eq_of_lt hjl]

theorem pidx_iff {ps : List (Option Pg)} (uq : ∀ (i j : Nat) (p q : Pg), ps[i]? = some (some p) → ps[j]? = some (some q) → p.id = q.id → i = j) (id : Int) (i : Nat) : pidx ps id = some i ↔ ∃ p, ps[i]? = some (some p) ∧ p.id = id := by
  constructor
  · exact pidx_some
  · rintro ⟨p, hp, rfl⟩
    exact pidx_of uq hp

theorem CaM.del {w w' : World} {m : Nat} {ps : List (Option Pg)} (h : CaM w m ps) {kv : List (Int × Value)} (h1 : MpR w m (Value.int .i64) kv) (h2 : ∀ id, aget id kv = (pidx ps id).map fun (i : Nat) => Value.int .i64 i) {i : Nat} {p : Pg} (hp : ps[i]? = some (some p)) (hw : MpR w' m (Value.int .i64) (adel p.id kv)) : CaM w' m (ps.set i none) := by
  have hi := (List.getElem?_eq_some_iff.1 hp).1
  have key : ∀ (j : Nat) (q : Pg), (ps.set i none)[j]? = some (some q) ↔ j ≠ i ∧ ps[j]? = some (some q) := by
    intro j q
    by_cases hj : i = j
    · subst hj
      rw [List.getElem?_set_self hi]
      simp
    · rw [List.getElem?_set_ne hj]
      simp [Ne.symm hj]
  have uq' : ∀ (a b : Nat) (x y : Pg), (ps.set i none)[a]? = some (some x) → (ps.set i none)[b]? = some (some y) → x.id = y.id → a = b := fun a b x y hx hy he => h.uq a b x y ((key a x).1 hx).2 ((key b y).1 hy).2 he
  refine ⟨⟨_, hw, fun id => ?_⟩, uq'⟩
  obtain ⟨_, _, _, ha⟩ := h1
  rw [aget_adel _ _ _ ha.nd, h2]
  by_cases he : id = p.id
  · rw [if_pos he]
    have : pidx (ps.set i none) id = none := by
      cases hq : pidx (ps.set i none) id with
      | none => rfl
      | some j =>
        obtain ⟨q, hq1, hq2⟩ := pidx_some hq
        obtain ⟨h3, h4⟩ := (key j q).1 hq1
        exact absurd (h.uq j i q p h4 hp (hq2.trans he)) h3
    rw [this]
    rfl
  · rw [if_neg he]
    congr 1
    apply Option.ext
    intro j
    rw [pidx_iff h.uq, pidx_iff uq']
    constructor
    · rintro ⟨q, h3, h4⟩
      refine ⟨q, (key j q).2 ⟨fun e => ?_, h3⟩, h4⟩
      subst e
      rw [hp] at h3
      cases h3
      exact he h4.symm
    · rintro ⟨q, h3, h4⟩
      exact ⟨q, ((key j q).1 h3).2, h4⟩

theorem CaL.drew {v : Value} {N : Nat} {w : World} {c : Nat} {τ : Tau} {sl : Sl} {m : Nat} {pl : List (Option Slot)} {hand : Nat} (h : CaL v N w c τ sl m pl hand) : CaL v N w.drew c τ sl m pl hand :=
  h.keeps (G := fun _ => False) ((KeepsP.refl _ w).step ((Keeps.refl [] w).drew) (by simp)) (fun _ h => h.elim)

theorem CaL.setHand {v : Value} {N : Nat} {w w' : World} {c : Nat} {τ : Tau} {sl : Sl} {m : Nat} {pl : List (Option Slot)} {hand hand' : Nat} (h : CaL v N w c τ sl m pl hand) (hk : Keeps [c] w w') (hb : ∃ t, w'.heap[c]? = some (.cells #[.slice sl.p sl.len sl.cap, .map (some m), .int .i64 hand', v] t (0, 0))) (hh : hand' < pl.length) : CaL v N w' c τ sl m pl hand' := by
  have ne : ∀ {y k}, τ y = some (k + 1) → y ∉ [c] := fun hy hm => by
    simp at hm; subst hm; rw [h.tc] at hy; cases hy
  refine ⟨hb, h.row.keeps hk (fun x hx => ne (h.tr x hx)), fun i x hx => (h.sb i x hx).imp fun t hb => hk.at hb (ne (k := 2 + 2 * i) (by rw [h.ts i x hx]; congr 1; omega)), fun i x hx => (h.sy i x hx).keeps hk (fun y hy => ne (k := 3 + 2 * i) (by rw [h.ty i x hx y hy]; congr 1; omega)),
    h.ok, h.tc, h.tr, h.tm, h.ts, h.ty, fun x hx => hk.lt (h.tl x hx), hh, h.ln⟩

/-- What room leaves behind. -/
def RoomP (B : BkI Try.prog) (N : Nat) (w : World) (c : Nat) (τ : Tau) (sl : Sl) (m : Nat) (G : Nat → Prop) (n : Nat) (t : CSt B × Int × Int) (r : TR [.sc (.i .i64), .sc (.i .i64)]) (w' : World) : Prop :=
  ∃ G' pl', r = (t.2.1, t.2.2, ()) ∧ pgs pl' = t.1.ps ∧ CaL B.v N w' c τ sl m pl' t.1.hand ∧ CaM w' m (pgs pl') ∧ B.At w' G' t.1.b ∧ (∀ x, G' x → τ x = none) ∧ B.rest t.1.b n ∧
    KeepsP (fun y => G y ∨ τ y ≠ none) w w' ∧ Fr G G' w ∧ (t.2.2 = 0 → ∃ i : Nat, t.2.1 = i ∧ pl'[i]? = some none)

theorem room_ok {N : Nat} {w : World} {c : Nat} {τ : Tau} {sl : Sl} {m : Nat} {pl : List (Option Slot)} {hand : Nat} (h : CaL B.v N w c τ sl m pl hand) (hm : CaM w m (pgs pl)) {s : B.S} {G : Nat → Prop} (hb : B.At w G s) (hd : ∀ x, G x → τ x = none)
    {n : Nat} (hr : B.rest s (n + 2)) :
    Cl Try.prog i_cache_Cache_room [.pointer (some ⟨c, 0, none⟩)] true [.sc (.i .i64), .sc (.i .i64)] (RoomP B N w c τ sl m G n (mRoom B ⟨pgs pl, hand, s⟩)) w := by
  refine Cl_gen fun R hR => ?_
  apply cache_Cache_room_call
  unfold cache_Cache_room
  obtain ⟨t, hbox⟩ := h.box
  simp only [sx, sxl, hbox, Nat.zero_add]
  refine Cl.mono (Index_ok h) ?_
  rintro r _ ⟨rfl, hri⟩
  rw [hri]
  cases hfi : (pgs pl).findIdx? isNo with
  | some i =>
    rw [show decide (oidx (some i) ≥ 0) = true from decide_eq_true (by simp [oidx])]
    simp only [sx]
    refine hR _ _ ?_
    have e : mRoom B ⟨pgs pl, hand, s⟩ = (⟨pgs pl, hand, s⟩, (i : Int), 0) := by simp only [mRoom, hfi]
    rw [e]
    refine ⟨G, pl, rfl, rfl, h, hm, hb, hd, B.restM hr (by omega), KeepsP.refl _ _, Fr.refl _ _, fun _ => ⟨i, rfl, ?_⟩⟩
    rw [List.findIdx?_eq_some_iff_getElem] at hfi
    obtain ⟨hi, h1, _⟩ := hfi
    rw [pgs_length] at hi
    have : (pgs pl)[i]? = some (pl[i].map Slot.pg) := by simp [pgs, hi]
    rw [List.getElem?_eq_getElem hi]
    cases hpi : pl[i] with
    | none => rfl
    | some x => simp [pgs, hpi, isNo] at h1
  | none =>
    rw [show decide (oidx none ≥ 0) = false from by decide]
    have hall : ∀ o ∈ pl, o ≠ none := by
      intro o ho he
      subst he
      rw [List.findIdx?_eq_none_iff] at hfi
      have := hfi none (by simp only [pgs, List.mem_map]; exact ⟨_, ho, rfl⟩)
      simp [isNo] at this
    have hall' : ∀ o ∈ pgs pl, o ≠ none := by
      intro o ho he
      subst he
      rw [List.findIdx?_eq_none_iff] at hfi
      have := hfi none ho
      simp [isNo] at this
    simp only [sx, sxl, hbox, Nat.zero_add]
    refine Cl.mono (Contains_ok h hall) ?_
    rintro r _ ⟨rfl, hrc⟩
    rw [hrc]
    cases hany : (pgs pl).any isFree with
    | false =>
      simp only [Bool.not_false, sx]
      refine hR _ _ ?_
      have e : mRoom B ⟨pgs pl, hand, s⟩ = (⟨pgs pl, hand, s⟩, 0, 100) := by simp only [mRoom, hfi, hany]; rfl
      rw [e]
      exact ⟨G, pl, rfl, rfl, h, hm, hb, hd, B.restM hr (by omega), KeepsP.refl _ _, Fr.refl _ _, fun h0 => absurd (show (100 : Int) = 0 from h0) (by decide)⟩
    | true =>
      simp only [Bool.not_true, sx]
      have e : mRoom B ⟨pgs pl, hand, s⟩ = sweep B (2 * (pgs pl).length + 1) ⟨pgs pl, hand, s⟩ := by simp only [mRoom, hfi, hany]; rfl
      have hend := ends_any (B := B) (s := ⟨pgs pl, hand, s⟩) (by show hand < (pgs pl).length; rw [pgs_length]; exact h.hd) hall' hany
      rw [e] at hR
      obtain ⟨T, hT⟩ : ∃ T, sweep B (2 * (pgs pl).length + 1) ⟨pgs pl, hand, s⟩ = T := ⟨_, rfl⟩
      rw [hT] at hR
      refine ⟨fun k s' w' => ∃ pl1 hand1, s' = (0, 0, ()) ∧ CaL B.v N w' c τ sl m pl1 hand1 ∧ CaM w' m (pgs pl1) ∧ B.At w' G s ∧ Ends B k ⟨pgs pl1, hand1, s⟩ ∧ sweep B k ⟨pgs pl1, hand1, s⟩ = T ∧ KeepsP (fun y => G y ∨ τ y ≠ none) w w',
        ⟨_, pl, hand, rfl, h, hm, hb, hend, hT, KeepsP.refl _ _⟩, ?_⟩
      rintro k _ w1 ⟨pl1, hand1, rfl, h1, hm1, hb1, hend1, hsw, hk1⟩
      cases k with
      | zero => exact hend1.elim
      | succ k =>
        dsimp only
        obtain ⟨t1, hbox1⟩ := h1.box
        obtain ⟨o, ho⟩ : ∃ o, pl1[hand1]? = some o := ⟨_, List.getElem?_eq_getElem h1.hd⟩
        have hgo : (pgs pl1)[hand1]? = some (o.map Slot.pg) := by simp [pgs, ho]
        cases o with
        | none => unfold Ends at hend1; rw [show (⟨pgs pl1, hand1, s⟩ : CSt B).ps[(⟨pgs pl1, hand1, s⟩ : CSt B).hand]? = some none from hgo] at hend1; exact hend1.elim
        | some x =>
          obtain ⟨t2, hsb1⟩ := h1.sb _ x ho
          have hok := h1.ok _ x ho
          have hts := h1.ts _ x ho
          have hcx : c ≠ x.b := fun e => by have := h1.tc; rw [e, hts] at this; exact absurd (Option.some.inj this) (by omega)
          have hl1 := h1.slen
          have hln := h1.ln
          have hhd := h1.hd
          simp only [sxr, sxl, hbox1, Nat.zero_add, Nat.reduceAdd]
          refine h1.drew.rd ho ?_
          simp only [sxr, sxl, hbox1, Nat.zero_add, Nat.reduceAdd, Option.map_some]
          refine ⟨by omega, ?_⟩
          rw [show w64 ((hand1 : Int) + 1) = ((hand1 + 1 : Nat) : Int) from w64_nat (n := hand1 + 1) (by omega), tmod_nat, hl1]
          refine set_box (w := w1.drew.drew) hbox1 2 _ rfl (by simp) ?_
          intro w2 hbox2 hk2'
          have hk2 : Keeps [c] w1 w2 := ((Keeps.refl [c] w1).drew.drew).trans hk2' (by simp)
          simp only [List.setIfInBounds_toArray, List.set_cons_succ, List.set_cons_zero] at hbox2
          generalize hhn : (hand1 + 1) % pl1.length = hand2 at hbox2
          have hh2 : hand2 < pl1.length := by rw [← hhn]; exact Nat.mod_lt _ (by omega)
          have h2 : CaL B.v N w2 c τ sl m pl1 hand2 := h1.setHand hk2 ⟨t1, hbox2⟩ hh2
          have nG : ∀ {y k}, τ y = some k → ¬ G y := fun hy hg => by rw [hd _ hg] at hy; cases hy
          have hmc : m ≠ c := fun e => by have := h1.tm; rw [e, h1.tc] at this; cases this
          have hm2 : CaM w2 m (pgs pl1) := hm1.keeps (hk2.toP (F := fun y => y = c) (by simp)) hmc
          have hb2 : B.At w2 G s := B.keeps hb1 (hk2.toP (F := fun y => y = c) (by simp)) (fun y hy e => by subst e; exact nG h1.tc hy)
          have hkk2 : KeepsP (fun y => G y ∨ τ y ≠ none) w w2 := hk1.step hk2 (fun y hy => by simp at hy; subst hy; exact .inl (.inr (by rw [h1.tc]; simp)))
          have hsb2 := hk2.at hsb1 (by simp; exact fun e => hcx e.symm)
          have hmod : (hand1 + 1) % (pgs pl1).length = hand2 := by rw [pgs_length]; exact hhn
          simp only [sxr, sxl, hsb2, pgCells, Nat.zero_add, Nat.reduceAdd]
          unfold Ends at hend1
          unfold sweep at hsw
          simp only [hgo, Option.map_some, hmod] at hend1 hsw
          refine Br_of (fun hc => ?_) (fun hc => ?_)
          · simp only [decide_eq_true_eq] at hc
            rw [if_pos hc] at hend1 hsw
            exact ⟨k, by omega, pl1, hand2, by trivial, h2, hm2, hb2, hend1, hsw, hkk2⟩
          · simp only [decide_eq_false_iff_not] at hc
            rw [if_neg hc] at hend1 hsw
            simp only [sxr, sxl, hsb2, pgCells, Nat.zero_add, Nat.reduceAdd]
            refine Br_of (fun ht => ?_) (fun ht => ?_)
            · rw [if_pos ht] at hend1 hsw
              refine set_box hsb2 3 _ rfl (by simp [pgCells]) ?_
              intro w3 hb3 hk3
              have h3 := h2.put ho { x.pg with touched := false } hk3 ⟨t2, by rw [hb3]; simp [pgCells]⟩ rfl ⟨hok.pins0, hok.pinsN, hok.len⟩
              have hmx : m ≠ x.b := fun e => by have := h1.tm; rw [e, hts] at this; exact absurd (Option.some.inj this) (by omega)
              refine ⟨k, by omega, pl1.set hand1 (some { x with pg := { x.pg with touched := false } }), hand2, by trivial, h3, ?_, B.keeps hb2 (hk3.toP (F := fun y => y = x.b) (by simp)) (fun y hy e => by subst e; exact nG hts hy), ?_, ?_, hkk2.step hk3 (fun y hy => by simp at hy; subst hy; exact .inl (.inr (by rw [hts]; simp)))⟩
              · rw [pgs_set]
                exact CaM.set (hm2.keeps (hk3.toP (F := fun y => y = x.b) (by simp)) hmx) (pgs_get ho) rfl
              · rw [pgs_set]; exact hend1
              · rw [pgs_set]; exact hsw
            · rw [if_neg (by simp [ht])] at hend1 hsw
              refine Cl.mono (clean_ok h2 hm2 hb2 hd ho hr) ?_
              rintro r3 w3 ⟨G3, hr3, h3, hm3, hb3, hd3, hrest3, hk3, hf3⟩
              have hkk3 : KeepsP (fun y => G y ∨ τ y ≠ none) w w3 := hkk2.trans hk3 (fun y hy => by rcases hy with hy | hy; exact .inl (.inl hy); exact .inl (.inr (by rw [hy]; simp)))
              have hf3' : Fr G G3 w := fun y hy => by rcases hf3 y hy with h' | h'; exact .inl h'; exact .inr (Nat.le_trans hkk2.size h')
              rw [hr3]
              by_cases h0 : (mClean B s x.pg).2 = 0
              · rw [show ((mClean B s x.pg).2 != 0) = false from by simp [h0]]
                simp only [if_pos h0] at h3 hm3 hsw
                obtain ⟨t3, hbox3⟩ := h3.box
                simp only [sxr, sxl, hbox3, Nat.zero_add, Nat.reduceAdd]
                have hx3 : (pl1.set hand1 (some { x with pg := { x.pg with dirty := false } }))[hand1]? = some (some { x with pg := { x.pg with dirty := false } }) := by rw [List.getElem?_set_self h1.hd]
                obtain ⟨t4, hsb3⟩ := h3.sb _ _ hx3
                obtain ⟨b, o', hp, _⟩ := h3.row.base (by omega)
                rw [Ix_base hp (by omega) (by omega), Int.toNat_natCast, Nat.mul_one]
                have hbr : τ b = some 1 := h3.tr b (by rw [blk_pos (by have := h3.row.cap; omega) hp]; simp)
                refine h3.row.write hp (by simp; omega) (v := .pointer none) rfl ?_
                intro w4 hrow4 hk4
                have nb : ∀ {y k}, τ y = some k → k ≠ 1 → y ∉ [b] := fun hy hk hm => by simp at hm; subst hm; rw [hbr] at hy; cases hy; exact hk rfl
                have hsb4 := hk4.at hsb3 (nb hts (by omega))
                have hbox4 := hk4.at hbox3 (nb h1.tc (by omega))
                simp only [pgCells] at hsb4
                simp only [sxr, sxl, hbox4, hsb4, Nat.zero_add, Nat.reduceAdd]
                have hlen1 : hand1 < (pl1.set hand1 (some { x with pg := { x.pg with dirty := false } })).length := by simpa using h1.hd
                have h4 : CaL B.v N w4 c τ sl m (pl1.set hand1 none) hand2 := by
                  have := h3.upd hlen1 none (hk4.toP (fun y hy => by simp at hy; subst hy; exact .inl (.inl hbr))) (fun _ _ => rfl) (fun y hy => hk4.lt (h3.tl y hy)) (by rw [List.map_set]; exact hrow4) (fun y hy => by cases hy)
                  rw [List.set_set] at this
                  exact this
                have hm4 : CaM w4 m (pgs (pl1.set hand1 (some { x with pg := { x.pg with dirty := false } }))) := hm3.keeps (hk4.toP (F := fun y => y ∈ [b]) (fun y hy => .inl hy)) (nb h1.tm (by omega))
                obtain ⟨kv, hkv, hkv2⟩ := hm4.mp
                refine MDel_of (w := w4.drew) (keyOk_int _) hkv _ ?_
                intro w5 hkv5 hk5'
                have hk5 : Keeps [m] w4 w5 := ((Keeps.refl [m] w4).drew).trans hk5' (by simp)
                refine hR _ _ ?_
                rw [← hsw]
                have hG3m : ∀ y ∈ [m], ¬ G3 y := fun y hy hg => by simp at hy; subst hy; have := hd3 _ hg; rw [h1.tm] at this; cases this
                have h5 : CaL B.v N w5 c τ sl m (pl1.set hand1 none) hand2 := by
                  have := h4.upd (i := hand1) (by simpa using h1.hd) none (hk5.toP (fun y hy => by simp at hy; subst hy; exact .inl (.inr (.inl h1.tm)))) (fun _ _ => rfl) (fun y hy => hk5.lt (h4.tl y hy)) ?_ (fun y hy => by cases hy)
                  · rw [List.set_set] at this; exact this
                  · rw [List.set_set]; exact h4.row.keeps hk5 (fun y hy hm => by simp at hm; have := h4.tr y hy; rw [hm, h1.tm] at this; cases this)
                refine ⟨G3, pl1.set hand1 none, rfl, by rw [pgs_set]; rfl, h5, ?_, B.keeps (B.keeps hb3 (hk4.toP (F := fun y => y ∈ [b]) (fun y hy => .inl hy)) (fun y hy hm => by simp at hm; have := hd3 y hy; rw [hm, hbr] at this; cases this)) (hk5.toP (F := fun y => y ∈ [m]) (fun y hy => .inl hy)) (fun y hy hm => hG3m y hm hy), hd3, hrest3, ?_, hf3', fun _ => ⟨hand1, rfl, by rw [List.getElem?_set_self h1.hd]⟩⟩
                · have hdel := CaM.del (w' := w5) hm4 hkv hkv2 (i := hand1) (p := { x.pg with dirty := false }) (pgs_get hx3) hkv5
                  rw [pgs_set, List.set_set] at hdel
                  rw [pgs_set]
                  exact hdel
                · exact (hkk3.step hk4 (fun y hy => by simp at hy; subst hy; exact .inl (.inr (by rw [hbr]; simp)))).step hk5 (fun y hy => by simp at hy; subst hy; exact .inl (.inr (by rw [h1.tm]; simp)))
              · rw [show ((mClean B s x.pg).2 != 0) = true from by simp [h0]]
                simp only [if_neg h0] at h3 hm3 hsw
                refine hR _ _ ?_
                rw [← hsw]
                exact ⟨G3, pl1, rfl, rfl, h3, hm3, hb3, hd3, hrest3, hkk3, hf3', fun h' => absurd h' h0⟩

end Go.Proofs.Ytelojafogbmbcaa
