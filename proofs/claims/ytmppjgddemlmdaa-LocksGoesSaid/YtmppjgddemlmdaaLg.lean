/- LocksApart: inWay, sound. Conditions: none. -/
import Derived.Test.YtmppjgddemlmdaaLf
set_option linter.unusedVariables false
set_option linter.unusedSimpArgs false
namespace Go.Proofs.Ytmppjgddemlmdaa
open Go Go.Sx

def inWayA (x y : Ak) : Bool := meetsR x.lo x.hi y.lo y.hi && (x.wr || y.wr)
theorem wayA_in {x y : Ak} : wayA x y = (inWayA x y && (x.n != y.n)) := by
  unfold wayA inWayA
  cases meetsR x.lo x.hi y.lo y.hi <;> cases (x.n != y.n) <;> simp

theorem inWay_ok (x y : Ak) (w : World) : Cl Try.prog i_sumpterlaw16_inWay [.agg #[.string x.lo, .string x.hi, .bool x.wr], .agg #[.string y.lo, .string y.hi, .bool y.wr]] false [.sc .b] (fun r w' => r.1 = inWayA x y ∧ Keeps [] w w') w := by
  refine Cl_gen fun R hR => ?_
  apply sumpterlaw16_inWay_call
  unfold sumpterlaw16_inWay
  refine New_bx fun a w1 ha na k1 => ?_
  refine New_bx fun b w2 hb nb k2 => ?_
  have ha := k2.at ha (by simp)
  simp only [sxn, ha, hb, sxl, Nat.reduceAdd]
  refine Cl.mono (Meet_ok _ _ _ _ _) ?_
  rintro ⟨s, r, _⟩ w3 ⟨e3, k3⟩
  dsimp only at e3
  subst e3
  have ha := k3.at ha (by simp)
  have hb := k3.at hb (by simp)
  have la := hp_lt ha
  have lb := hp_lt hb
  have k03 := kp0 (kp0 k1 k2) k3
  refine New_bx fun c w4 hc nc k4 => ?_
  have ha := k4.at ha (by simp)
  have hb := k4.at hb (by simp)
  have nc' : w.heap.size ≤ c := by have := k03.size; omega
  simp only [add_of, Nat.reduceAdd]
  refine set_box hc 0 _ rfl (by simp) fun w5 hc5 k5 => ?_
  refine set_box hc5 1 _ rfl (by simp) fun w6 hc6 k6 => ?_
  have x1 : a ∉ [c] := by simp; omega
  have x2 : b ∉ [c] := by simp; omega
  have ha := k6.at (k5.at ha x1) x1
  have hb := k6.at (k5.at hb x2) x2
  have k06 := kpx (kpx (kp0 k03 k4) k5 (by simpa using nc')) k6 (by simpa using nc')
  cases c1 : meetsR x.lo x.hi y.lo y.hi with
  | false => exact hR _ _ ⟨by unfold inWayA; rw [c1]; rfl, k06⟩
  | true =>
  simp only [sxn, ha, hb, sxl, Nat.reduceAdd]
  cases c2 : x.wr with
  | true => exact hR _ _ ⟨by unfold inWayA; rw [c1, c2]; rfl, k06⟩
  | false =>
  simp only [sxn, ha, hb, sxl, Nat.reduceAdd]
  exact hR _ _ ⟨by unfold inWayA; rw [c1, c2]; rfl, k06⟩

/-- A lock of a list, read. -/
theorem ls_ld {w : World} {s : Sl} {l : List Ak} (h : Ls w s l) {i : Nat} {x : Ak} (hx : l[i]? = some x) {K : ByteArray → ByteArray → Bool → Pr} (k : K x.lo x.hi x.wr w) :
    Ix s (i : Int) 3 (fun a => LdS (a.add 0) fun x2 => LdS (a.add 1) fun x3 => LdB (a.add 2) fun x4 => K x2 x3 x4) w := by
  have hl := ls_len h
  have hi := (List.getElem?_eq_some_iff.1 hx).1
  obtain ⟨b, o, hp, _⟩ := h.base (by omega)
  have hit := fun j hj => h.item cL_len hp hx j hj
  rw [Ix_base hp (by omega) (by omega), Int.toNat_natCast]
  simp only [add_of]
  rw [LdS_c, hit 0 (by omega)]
  show asS _ (some (.string x.lo)) _
  simp only [asS]
  rw [LdS_c, hit 1 (by omega)]
  show asS _ (some (.string x.hi)) _
  simp only [asS]
  rw [LdB_c, hit 2 (by omega)]
  exact k

theorem holds_mem {s : TS} {n : Int} {y : Ak} (h : y ∈ holdsA n s) : y ∈ s.held ∧ y.n = n := by
  obtain ⟨h1, h2⟩ := List.mem_filter.1 h
  exact ⟨h1, by simpa using h2⟩

/-- Rounds that change nothing. -/
theorem rounds {w : World} {q : Bool} {B : (Bool × Int × Unit → Pr) → Bool × Int × Unit → Pr} (N : Nat)
    (hB : ∀ (i : Nat) (q : Bool) (w' : World) (L : Bool × Int × Unit → Pr), i ≤ N → Keeps [] w w' → (i < N → ∀ w'' q', Keeps [] w' w'' → L (q', ((i + 1 : Nat) : Int), ()) w'') → B L (q, (i : Int), ()) w') : Lp B (q, 0, ()) w := by
  refine ⟨fun n st w' => ∃ (i : Nat) (q : Bool), st = (q, (i : Int), ()) ∧ n = N - i ∧ i ≤ N ∧ Keeps [] w w', ⟨_, 0, q, rfl, rfl, by omega, Keeps.refl _ _⟩, ?_⟩
  rintro n _ w1 ⟨i, q, rfl, rfl, hi, k1⟩
  refine hB i q w1 _ hi k1 ?_
  intro hlt w2 q2 k2
  exact ⟨N - (i + 1), by omega, i + 1, q2, rfl, rfl, by omega, kp0 k1 k2⟩

theorem hold_len {s : TS} (ho : TOk s) (n : Int) : (holdsA n s).length ≤ 192 := by
  have h1 := List.length_filter_le (fun x : Ak => x.n == n) s.held
  have := ho.few
  unfold holdsA
  omega

set_option maxRecDepth 8000 in
/-- 'sound'. -/
theorem sound_ok {w : World} {t : Nat} {H : Nat → Prop} {s : TS} (h : TAt w t H s) (hs : SI s) :
    Cl Try.prog i_sumpterlaw16_sound [.pointer (some ⟨t, 0, none⟩)] false [.sc .b] (fun r w' => r.1 = true ∧ Keeps [] w w') w := by
  have ho := hs.ok
  refine Cl_gen fun R hR => ?_
  apply sumpterlaw16_sound_call
  unfold sumpterlaw16_sound
  refine Cl.mono (Txns_ok h ho) ?_
  rintro ⟨r1, _⟩ w1 ⟨h1, hb1, k1⟩
  dsimp only at h1 ⊢
  have htl := txns_len ho
  have hin : ∀ y ∈ s.held, y.n ∈ txnsA s := fun y hy => txns_mem.2 ⟨y, mem_all.2 (.inl hy), rfl⟩
  generalize txnsA s = T at h1 htl hin
  have hl1 := cU_slen h1
  have g1 := h.keeps0 k1
  have get : ∀ {α : Type} (l : List α) (i : Nat), i < l.length → ∃ x, l[i]? = some x := fun l i hi => ⟨_, List.getElem?_eq_getElem hi⟩
  refine rounds T.length fun i q w2 L hi k2 hL => ?_
  dsimp only
  by_cases hlt : i < T.length
  · rw [decide_eq_true (by omega)]
    simp only [Br_true]
    obtain ⟨a, ha⟩ := get T i hlt
    refine Ix_cu (h1.keeps k2 (by simp)) ha ?_
    refine rounds T.length fun i3 q3 w3 L3 hi3 k3 hL3 => ?_
    dsimp only
    have k13 := kp0 k2 k3
    by_cases hlt3 : i3 < T.length
    · rw [decide_eq_true (by omega)]
      simp only [Br_true]
      obtain ⟨b, hb⟩ := get T i3 hlt3
      refine Ix_cu (h1.keeps k13 (by simp)) hb ?_
      refine Cl.mono (Holds_ok (g1.keeps0 k13) ho a) ?_
      rintro ⟨r4, _⟩ w4 ⟨h4, _, k4⟩
      dsimp only at h4 ⊢
      have l4 := ls_len h4
      have hla := hold_len ho a
      refine rounds (holdsA a s).length fun i5 q5 w5 L5 hi5 k5 hL5 => ?_
      dsimp only
      by_cases hlt5 : i5 < (holdsA a s).length
      · rw [decide_eq_true (by omega)]
        simp only [Br_true]
        obtain ⟨x, hx⟩ := get _ i5 hlt5
        refine ls_ld (h4.keeps k5 (by simp)) hx ?_
        refine bx3 fun c w6 hc nc k6 => ?_
        have k16 := kp0 (kp0 (kp0 k13 k4) k5) k6
        refine Cl.mono (Holds_ok (g1.keeps0 k16) ho b) ?_
        rintro ⟨r7, _⟩ w7 ⟨h7, _, k7⟩
        dsimp only at h7 ⊢
        have l7 := ls_len h7
        have hlb := hold_len ho b
        refine rounds (holdsA b s).length fun i8 q8 w8 L8 hi8 k8 hL8 => ?_
        dsimp only
        by_cases hlt8 : i8 < (holdsA b s).length
        · rw [decide_eq_true (by omega)]
          simp only [Br_true]
          obtain ⟨y, hy⟩ := get _ i8 hlt8
          refine ls_ld (h7.keeps k8 (by simp)) hy ?_
          refine bx3 fun d w9 hd nd k9 => ?_
          have hc9 := k9.at (k8.at (k7.at hc (by simp)) (by simp)) (by simp)
          refine Jp_of (fun st w' => st = (false, ()) ∧ Keeps [] w9 w') (fun J hJ => ?_) ?_
          · cases hab : a != b with
            | false => exact hJ _ _ ⟨rfl, Keeps.refl _ _⟩
            | true =>
              simp only [sxn, hc9, hd, sxl, Nat.reduceAdd]
              refine Cl.mono (inWay_ok x y _) ?_
              rintro ⟨r10, _⟩ w10 ⟨e10, k10⟩
              dsimp only at e10
              refine hJ _ _ ⟨?_, k10⟩
              rw [e10]
              obtain ⟨hx1, hx2⟩ := holds_mem (List.mem_of_getElem? hx)
              obtain ⟨hy1, hy2⟩ := holds_mem (List.mem_of_getElem? hy)
              have hw := hs.apart x hx1 y hy1
              rw [wayA_in, hx2, hy2, hab, Bool.and_true] at hw
              rw [hw]
          · rintro _ w10 ⟨rfl, k10⟩
            simp only [Br_false]
            rw [w64p (by omega)]
            exact hL8 hlt8 _ _ (kp0 k9 k10)
        · rw [decide_eq_false (by omega)]
          simp only [Br_false]
          rw [w64p (by omega)]
          exact hL5 hlt5 _ _ (kp0 (kp0 k6 k7) k8)
      · rw [decide_eq_false (by omega)]
        simp only [Br_false]
        rw [w64p (by omega)]
        exact hL3 hlt3 _ _ (kp0 k4 k5)
    · rw [decide_eq_false (by omega)]
      simp only [Br_false]
      rw [w64p (by omega)]
      exact hL hlt _ _ k3
  · rw [decide_eq_false (by omega)]
    simp only [Br_false]
    have k02 := kp0 k1 k2
    refine Cl.mono (Waiting_ok (h.keeps0 k02) ho) ?_
    rintro ⟨r3, _⟩ w3 ⟨h3, _, k3⟩
    dsimp only at h3 ⊢
    have l3 := as_len h3
    have hwl : s.wait.length ≤ 192 := by have := ho.few; omega
    refine rounds s.wait.length fun i4 q4 w4 L4 hi4 k4 hL4 => ?_
    dsimp only
    by_cases hlt4 : i4 < s.wait.length
    · rw [decide_eq_true (by omega)]
      simp only [Br_true]
      obtain ⟨x, hx⟩ := get s.wait i4 hlt4
      have hxm := List.mem_of_getElem? hx
      refine as_ld (h3.keeps k4 (by simp)) hx ?_
      refine bx4 fun c w5 hc nc k5 => ?_
      have k15 := kp0 (kp0 (kp0 k2 k3) k4) k5
      refine ⟨fun n st w' => ∃ (i : Nat) (q f : Bool), st = (q, f, (i : Int), ()) ∧ n = T.length - i ∧ i ≤ T.length ∧ (∀ y ∈ s.held, wayA x y = true → y.n ∈ T.take i → f = true) ∧ Keeps [] w5 w', ⟨_, 0, q4, false, rfl, rfl, by omega, by simp, Keeps.refl _ _⟩, ?_⟩
      rintro n _ w6 ⟨i6, q6, f6, rfl, rfl, hi6, hf6, k6⟩
      dsimp only
      have hc6 := k6.at hc (by simp)
      by_cases hlt6 : i6 < T.length
      · rw [decide_eq_true (by omega)]
        simp only [Br_true]
        obtain ⟨b, hb⟩ := get T i6 hlt6
        have k16 := kp0 k15 k6
        refine Ix_cu (h1.keeps k16 (by simp)) hb ?_
        refine Cl.mono (Holds_ok (g1.keeps0 k16) ho b) ?_
        rintro ⟨r7, _⟩ w7 ⟨h7, _, k7⟩
        dsimp only at h7 ⊢
        have l7 := ls_len h7
        have hlb := hold_len ho b
        refine ⟨fun n st w' => ∃ (i : Nat) (q f : Bool), st = (q, f, (i : Int), ()) ∧ n = (holdsA b s).length - i ∧ i ≤ (holdsA b s).length ∧ (∀ y ∈ s.held, wayA x y = true → y.n ∈ T.take i6 → f = true) ∧ (∀ y ∈ (holdsA b s).take i, wayA x y = true → f = true) ∧ Keeps [] w7 w', ⟨_, 0, q6, f6, rfl, rfl, by omega, hf6, by simp, Keeps.refl _ _⟩, ?_⟩
        rintro n8 _ w8 ⟨i8, q8, f8, rfl, rfl, hi8, hf8, hg8, k8⟩
        dsimp only
        have hc8 := k8.at (k7.at hc6 (by simp)) (by simp)
        by_cases hlt8 : i8 < (holdsA b s).length
        · rw [decide_eq_true (by omega)]
          simp only [Br_true]
          obtain ⟨y, hy⟩ := get _ i8 hlt8
          obtain ⟨hy1, hy2⟩ := holds_mem (List.mem_of_getElem? hy)
          have hway : wayA x y = (inWayA x y && (x.n != b)) := by rw [wayA_in, hy2]
          refine Jp_of (fun st w' => ∃ (q f : Bool), st = (q, f, ()) ∧ (f8 = true → f = true) ∧ (wayA x y = true → f = true) ∧ Keeps [] w8 w') (fun J hJ => ?_) ?_
          rotate_left
          · rintro _ w9 ⟨q9, f9, rfl, hf9, hy9, k9⟩
            refine ⟨(holdsA b s).length - (i8 + 1), by omega, i8 + 1, q9, f9, by rw [w64p (by omega)], rfl, by omega, fun z hz h1 h2 => hf9 (hf8 z hz h1 h2), fun z hz h1 => ?_, kp0 k8 k9⟩
            rw [List.take_add_one, hy] at hz
            simp at hz
            rcases hz with hz | rfl
            · exact hf9 (hg8 z hz h1)
            · exact hy9 h1
          refine ls_ld (h7.keeps k8 (by simp)) hy ?_
          refine bx3 fun d w9 hd nd k9 => ?_
          have hc9 := k9.at hc8 (by simp)
          refine Jp_of (fun st w' => st = (!(wayA x y), ()) ∧ Keeps [] w9 w') (fun J2 hJ2 => ?_) ?_
          · simp only [sxn, hc9, sxl, Nat.reduceAdd]
            by_cases hbx : b = x.n
            · rw [show (b == x.n) = true from by simp [hbx]]
              simp only [Br_true]
              exact hJ2 _ _ ⟨by rw [hway, hbx]; simp, Keeps.refl _ _⟩
            · rw [show (b == x.n) = false from by simp [hbx]]
              simp only [sxn, hc9, hd, sxl, Nat.reduceAdd]
              refine Cl.mono (inWay_ok x y _) ?_
              rintro ⟨r10, _⟩ w10 ⟨e10, k10⟩
              dsimp only at e10
              refine hJ2 _ _ ⟨?_, k10⟩
              rw [e10, hway, show (x.n != b) = true from by simp; exact fun e => hbx e.symm, Bool.and_true]
          · rintro _ w10 ⟨rfl, k10⟩
            dsimp only
            cases hw : wayA x y with
            | false =>
              exact hJ _ _ ⟨q8, f8, rfl, id, (fun h => by first | (rw [hw] at h; cases h) | cases h), kp0 k9 k10⟩
            | true =>
              have hc10 := k10.at hc9 (by simp)
              have hlt10 := hs.first x hxm y hy1 hw
              rw [hy2] at hlt10
              simp only [sxn, hc10, sxl, Nat.reduceAdd, Bool.not_true]
              rw [decide_eq_false (by omega)]
              exact hJ _ _ ⟨q8, true, rfl, fun _ => rfl, fun _ => rfl, kp0 k9 k10⟩
        · rw [decide_eq_false (by omega)]
          simp only [Br_false]
          rw [List.take_of_length_le (by omega)] at hg8
          refine ⟨T.length - (i6 + 1), by omega, i6 + 1, q8, f8, by rw [w64p (by omega)], rfl, by omega, fun z hz h1 h2 => ?_, kp0 (kp0 k6 k7) k8⟩
          rw [List.take_add_one, hb] at h2
          simp at h2
          rcases h2 with h2 | h2
          · exact hf8 z hz h1 h2
          · exact hg8 z (List.mem_filter.2 ⟨hz, by simp [h2]⟩) h1
      · rw [decide_eq_false (by omega)]
        simp only [Br_false]
        rw [List.take_of_length_le (by omega)] at hf6
        obtain ⟨y, hy, hwy⟩ := hs.some_ x hxm
        rw [hf6 y hy hwy (hin y hy)]
        simp only [Bool.not_true, Br_false]
        rw [w64p (by omega)]
        exact hL4 hlt4 _ _ (kp0 k5 k6)
    · rw [decide_eq_false (by omega)]
      exact hR (true, ()) _ ⟨rfl, kp0 (kp0 k02 k3) k4⟩
end Go.Proofs.Ytmppjgddemlmdaa
