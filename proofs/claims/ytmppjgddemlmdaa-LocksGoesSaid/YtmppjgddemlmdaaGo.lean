/- LocksGoes: its walk. Conditions: none. -/
import Derived.Test.YtmppjgddemlmdaaGs
set_option linter.unusedVariables false
set_option linter.unusedSimpArgs false
namespace Go.Proofs.Ytmppjgddemlmdaa
open Go Go.Sx

/-- The table and the reference's, the same. -/
structure GO (w0 w : World) (t : Nat) (H : Nat → Prop) (x : Nat) (G : Nat → Prop) (s : TS) : Prop where
  at_ : TAt w t H s
  rf : XAt w x G s
  ok : TOk s
  dj : Dj H G
  hw : ∀ y, H y → w0.heap.size ≤ y
  gw : ∀ y, G y → w0.heap.size ≤ y
  kp : Keeps [] w0 w
section
variable {w0 w : World} {t x : Nat} {H G : Nat → Prop} {s s' : TS} (h : GO w0 w t H x G s)
include h
theorem GO.keeps {w' : World} {m : List Nat} (hk : Keeps m w w') (hm : ∀ y ∈ m, w0.heap.size ≤ y ∧ ¬ H y ∧ ¬ G y) : GO w0 w' t H x G s :=
  ⟨h.at_.keeps (F := fun y => y ∈ m) (hk.toP (fun _ hx => .inl hx)) (fun y hy hy' => (hm y hy').2.1 hy), h.rf.keeps (F := fun y => y ∈ m) (hk.toP (fun _ hx => .inl hx)) (fun y hy hy' => (hm y hy').2.2 hy), h.ok, h.dj, h.hw, h.gw, h.kp.trans hk (fun y hy => .inr (hm y hy).1)⟩
theorem GO.keeps0 {w' : World} (hk : Keeps [] w w') : GO w0 w' t H x G s := h.keeps hk (by simp)
theorem GO.not {b : Nat} (hb : w.heap.size ≤ b) : w0.heap.size ≤ b ∧ ¬ H b ∧ ¬ G b :=
  ⟨by have := h.kp.size; omega, fun hH => by have := h.at_.bl b hH; omega, fun hH => by have := h.rf.bl b hH; omega⟩
/-- The same step of both, and the answers. -/
theorem GO.both {w1 w2 : World} {a b a' b' : Sl} {g d : List Int} (ho : TOk s') (h1 : Left w w1 t H s' a b g d) (h3 : ∀ (_ : XAt w1 x G s), LeftR w1 w2 x G s' a' b' g d) :
    ∃ H' G', GO w0 w2 t H' x G' s' ∧ SlC w2 a 1 (cU g) ∧ SlC w2 b 1 (cU d) ∧ SlC w2 a' 1 (cU g) ∧ SlC w2 b' 1 (cU d) ∧ (∀ y ∈ blk a, w.heap.size ≤ y ∧ ¬ H' y ∧ ¬ G' y) ∧ (∀ y ∈ blk b, w.heap.size ≤ y ∧ ¬ H' y ∧ ¬ G' y) ∧
      (∀ y ∈ blk a, y ∉ blk b ∧ y ∉ blk a' ∧ y ∉ blk b') ∧ (∀ y ∈ blk b, y ∉ blk a' ∧ y ∉ blk b') ∧ Fr H H' w ∧ Fr G G' w ∧ KeepsP (fun y => H y ∨ G y) w w2 := by
  obtain ⟨H1, t1, f1, k1, sa, sb, na, nb, nab⟩ := h1
  have x1 : XAt w1 x G s := h.rf.keeps k1 (fun y hg hh => h.dj y hh hg)
  obtain ⟨G2, t2, f2, k2, sa', sb', na', nb'⟩ := h3 x1
  have s1 := k1.size
  have s2 := k2.size
  have s0 := h.kp.size
  have glt : ∀ y, G y → y < w.heap.size := h.rf.bl
  have h1lt : ∀ y, H1 y → y < w1.heap.size := t1.bl
  have dj1 : Dj H1 G := h.dj.step f1 h.rf.bl
  have dj2 : Dj H1 G2 := fun y hy hg => (f2 y hg).elim (dj1 y hy) (fun h => by have := h1lt y hy; omega)
  have aG : ∀ y ∈ blk a, ¬ G2 y := fun y hy hg => (f2 y hg).elim (fun hg => by have := glt y hg; have := (na y hy).1; omega) (fun h => by have := sa.lt y hy; omega)
  have bG : ∀ y ∈ blk b, ¬ G2 y := fun y hy hg => (f2 y hg).elim (fun hg => by have := glt y hg; have := (nb y hy).1; omega) (fun h => by have := sb.lt y hy; omega)
  have aG1 : ∀ y ∈ blk a, ¬ G y := fun y hy hg => by have := glt y hg; have := (na y hy).1; omega
  have bG1 : ∀ y ∈ blk b, ¬ G y := fun y hy hg => by have := glt y hg; have := (nb y hy).1; omega
  refine ⟨H1, G2, ⟨t1.keeps k2 dj1, t2, ho, dj2, fun y hy => (f1 y hy).elim (h.hw y) (fun h => by omega), fun y hy => (f2 y hy).elim (h.gw y) (fun h => by omega), toL_of (toL_of h.kp k1 h.hw) k2 h.gw⟩, sa.keepsP k2 aG1, sb.keepsP k2 bG1, sa', sb',
    fun y hy => ⟨(na y hy).1, (na y hy).2, aG y hy⟩, fun y hy => ⟨(nb y hy).1, (nb y hy).2, bG y hy⟩, fun y hy => ⟨nab y hy, fun h' => ?_, fun h' => ?_⟩, fun y hy => ⟨fun h' => ?_, fun h' => ?_⟩, f1, fun y hy => (f2 y hy).elim .inl (fun h => .inr (by omega)), ?_⟩
  · have := na' y h'; have := sa.lt y hy; omega
  · have := nb' y h'; have := sa.lt y hy; omega
  · have := na' y h'; have := sb.lt y hy; omega
  · have := nb' y h'; have := sb.lt y hy; omega
  · exact (k1.mono (fun y hy => .inl (.inl hy))).trans k2 (fun y hy => .inl (.inr hy))
end

theorem setA_gr_len {s : TS} (ho : TOk s) (x : Ak) : (askA x s).1.2.1.length ≤ 60000 := Nat.le_trans (ask_gr_len ho x) (by decide)

set_option maxRecDepth 8000 in
theorem LocksGoes_ok {w : World} {l : Sl} {os : List Op} (h : RdC l.p (l.len * 6) (os.flatMap encO) w) :
    Cl Try.prog i_sumpterlaw16_LocksGoes [.slice l.p l.len l.cap] false [.sc .b] (fun r w' => r.1 = true ∧ Keeps [] w w') w := by
  refine Cl_gen fun R hR => ?_
  have hol := ops_len h
  apply sumpterlaw16_LocksGoes_call
  unfold sumpterlaw16_LocksGoes
  refine Cl.mono start_ok ?_
  rintro ⟨r1, _⟩ w1 ⟨e1, hs⟩
  dsimp only at e1
  subst e1
  refine Cl.mono hs ?_
  rintro ⟨_, _⟩ w2 ⟨t, H, rfl, O⟩
  dsimp only
  rw [show Option.isNone (some (⟨t, 0, none⟩ : Addr)) = false from rfl]
  refine New_bx fun x w3 hx nx k3 => ?_
  have hO := O.not nx
  have g0 : GO w w3 t H x (fun y => y = x) ⟨[], []⟩ := ⟨O.at_.keeps0 k3, ⟨⟨none, 0, 0⟩, ⟨none, 0, 0⟩, hx, SlC.nil _ 4, SlC.nil _ 4, by simp [blk], by simp [blk], by simp [blk], fun y => by simp [blk]⟩, O.ok, fun y hy e => hO.2 (by rw [← e]; exact hy), O.young, fun y hy => by rw [hy]; exact hO.1, kp0 O.kept k3⟩
  refine Jp_of (fun st w' => st = (decide (200 < l.len), ()) ∧ w3 = w') (fun J hJ => ?_) ?_
  · simp only [Br_false]
    exact hJ _ _ ⟨by rw [show decide ((l.len : Int) > 200) = decide (200 < l.len) from decide_eq_decide.2 (by omega)], rfl⟩
  rintro _ _ ⟨rfl, rfl⟩
  dsimp only
  by_cases hbig : 200 < l.len
  · rw [decide_eq_true hbig]
    simp only [Br_true]
    exact hR (true, ()) _ ⟨rfl, g0.kp⟩
  rw [decide_eq_false hbig]
  simp only [Br_false]
  refine ⟨fun n st w' => ∃ (i : Nat) (q : Bool) (t : Nat) (s : TS) (H G : Nat → Prop), st = (q, some ⟨t, 0, none⟩, (i : Int), ()) ∧ n = os.length - i ∧ i ≤ os.length ∧ GO w w' t H x G s, ⟨_, 0, false, t, _, H, _, rfl, rfl, by omega, g0⟩, ?_⟩
  clear g0 O hO
  rintro n _ w4 ⟨i, q, t, s, H, G, rfl, rfl, hi, O⟩
  dsimp only
  by_cases hlt : i < os.length
  · rw [decide_eq_true (by omega)]
    simp only [Br_true]
    obtain ⟨o, ho⟩ : ∃ o, os[i]? = some o := ⟨_, List.getElem?_eq_getElem hlt⟩
    refine Jp_of (fun st w' => ∃ (q : Bool) (t : Nat) (s : TS) (H G : Nat → Prop), st = (q, some ⟨t, 0, none⟩, ()) ∧ GO w w' t H x G s) (fun J hJ => ?_) ?_
    rotate_left
    · rintro _ w5 ⟨q', t', s', H', G', rfl, O'⟩
      exact ⟨os.length - (i + 1), by omega, i + 1, q', t', s', H', G', by rw [w64p (by omega)], rfl, by omega, O'⟩
    refine op_ok (rdc_keep h O.kp) ho ?_
    intro b w5 hb nb k5
    have hbO := O.not nb
    have O := O.keeps0 k5
    have lb := hp_lt hb
    refine Jp_of (fun st w' => st = (true, ()) ∧ ∃ (s : TS) (H G : Nat → Prop), GO w w' t H x G s ∧ ¬ H b ∧ ¬ G b ∧ w'.heap[b]? = some (.cells #[.int .i64 o.do_, .int .u64 o.n, .string o.lo, .string o.hi, .bool o.wr, .bool o.cl] 32 (0, 0))) (fun J18 hJ18 => ?_) ?_
    · -- the same call of both
      simp only [sxn, hb, sxl, Nat.reduceAdd]
      cases hdo : o.do_ == 0 with
      | true =>
        simp only [sxn, hb, sxl, Nat.reduceAdd]
        refine Cl.mono (Ask_ok O.at_ O.ok ⟨o.n, o.lo, o.hi, o.wr⟩) ?_
        rintro ⟨r6, g6, d6, e6, _⟩ w6 ⟨q1, q2, hl6⟩
        dsimp only at q1 q2 hl6 ⊢
        have k56 := hl6
        obtain ⟨H6, t6, f6, k6, _⟩ := k56
        have hb6 := k6.at hb hbO.2.1
        have x6 : XAt w6 x G s := O.rf.keeps k6 (fun y hg hh => O.dj y hh hg)
        simp only [sxn, hb6, sxl, Nat.reduceAdd]
        refine Cl.mono (AskR_ok x6 O.ok ⟨o.n, o.lo, o.hi, o.wr⟩) ?_
        rintro ⟨r7, g7, d7, e7, _⟩ w7 ⟨p1, p2, hl7⟩
        dsimp only at p1 p2 hl7 ⊢
        obtain ⟨H7, G7, O7, sa, sb, sa', sb', na, nb', da, db, fH, fG, kk⟩ := O.both (askA_ok O.ok) hl6 (fun _ => hl7)
        have hgl := ask_gr_len O.ok ⟨o.n, o.lo, o.hi, o.wr⟩
        have hdl := ask_dead_len O.ok ⟨o.n, o.lo, o.hi, o.wr⟩
        rw [show (r6 == r7) = true from by rw [q1, p1]; simp]
        simp only [Br_true]
        have hb7 := kk.at hb (fun h => h.elim hbO.2.1 hbO.2.2)
        have hb7H := nH_step fH lb hbO.2.1
        have hb7G := nH_step fG lb hbO.2.2
        refine Cl.mono (numbers_ok sa sa' (fun y hy => (da y hy).2.1) (by omega)) ?_
        rintro ⟨r8, _⟩ w8 ⟨e8, k8⟩
        dsimp only at e8
        subst e8
        simp only [Br_true]
        have s5 := O.kp.size
        have O8 := O7.keeps k8 (fun y hy => ⟨by have := (na y hy).1; omega, (na y hy).2⟩)
        have hba : b ∉ blk g6 := fun hy => by have := (na b hy).1; omega
        have hbd : b ∉ blk d6 := fun hy => by have := (nb' b hy).1; omega
        have hb8 := k8.at hb7 hba
        refine Cl.mono (numbers_ok (sb.keeps k8 (fun y hy hy' => (da y hy').1 hy)) (sb'.keeps k8 (fun y hy hy' => (da y hy').2.2 hy)) (fun y hy => (db y hy).2) (by omega)) ?_
        rintro ⟨r9, _⟩ w9 ⟨e9, k9⟩
        dsimp only at e9
        subst e9
        simp only [Br_true]
        have O9 := O8.keeps k9 (fun y hy => ⟨by have := (nb' y hy).1; omega, (nb' y hy).2⟩)
        have hb9 := k9.at hb8 hbd
        refine hJ18 _ _ ⟨?_, _, H7, G7, O9, hb7H, hb7G, hb9⟩
        rw [q2, p2]
        simp
      | false =>
        simp only [sxn, hb, sxl, Nat.reduceAdd]
        refine Cl.mono (Release_ok O.at_ O.ok o.n) ?_
        rintro ⟨g6, d6, _⟩ w6 hl6
        dsimp only at hl6 ⊢
        have k56 := hl6
        obtain ⟨H6, t6, f6, k6, _⟩ := k56
        have hb6 := k6.at hb hbO.2.1
        have x6 : XAt w6 x G s := O.rf.keeps k6 (fun y hg hh => O.dj y hh hg)
        simp only [sxn, hb6, sxl, Nat.reduceAdd]
        refine Cl.mono (ReleaseR_ok x6 O.ok o.n) ?_
        rintro ⟨g7, d7, _⟩ w7 hl7
        dsimp only at hl7 ⊢
        obtain ⟨H7, G7, O7, sa, sb, sa', sb', na, nb', da, db, fH, fG, kk⟩ := O.both (relA_ok O.ok) hl6 (fun _ => hl7)
        have hgl := rel_gr_len O.ok o.n
        have hdl := rel_dead_len O.ok o.n
        have hb7 := kk.at hb (fun h => h.elim hbO.2.1 hbO.2.2)
        have hb7H := nH_step fH lb hbO.2.1
        have hb7G := nH_step fG lb hbO.2.2
        refine Cl.mono (numbers_ok sa sa' (fun y hy => (da y hy).2.1) (by omega)) ?_
        rintro ⟨r8, _⟩ w8 ⟨e8, k8⟩
        dsimp only at e8
        subst e8
        simp only [Br_true]
        have s5 := O.kp.size
        have O8 := O7.keeps k8 (fun y hy => ⟨by have := (na y hy).1; omega, (na y hy).2⟩)
        have hba : b ∉ blk g6 := fun hy => by have := (na b hy).1; omega
        have hbd : b ∉ blk d6 := fun hy => by have := (nb' b hy).1; omega
        have hb8 := k8.at hb7 hba
        refine Cl.mono (numbers_ok (sb.keeps k8 (fun y hy hy' => (da y hy').1 hy)) (sb'.keeps k8 (fun y hy hy' => (da y hy').2.2 hy)) (fun y hy => (db y hy).2) (by omega)) ?_
        rintro ⟨r9, _⟩ w9 ⟨e9, k9⟩
        dsimp only at e9
        subst e9
        have O9 := O8.keeps k9 (fun y hy => ⟨by have := (nb' y hy).1; omega, (nb' y hy).2⟩)
        have hb9 := k9.at hb8 hbd
        exact hJ18 _ _ ⟨rfl, _, H7, G7, O9, hb7H, hb7G, hb9⟩
    · rintro _ w6 ⟨rfl, s6, H6, G6, O6, hbH, hbG, hb6⟩
      refine Jp_of (fun st w' => st = (false, ()) ∧ Keeps [] w6 w') (fun J20 hJ20 => ?_) ?_
      · simp only [Bool.not_true, Br_false]
        refine Cl.mono (same_ok O6.at_ O6.rf O6.ok) ?_
        rintro ⟨r7, _⟩ w7 ⟨e7, k7⟩
        dsimp only at e7
        subst e7
        exact hJ20 _ _ ⟨rfl, k7⟩
      · rintro _ w7 ⟨rfl, k7⟩
        have O7 := O6.keeps0 k7
        have hb7 := k7.at hb6 (by simp)
        simp only [sxn, hb7, sxl, Nat.reduceAdd]
        cases hcl : o.cl with
        | false => exact hJ (q, some ⟨t, 0, none⟩, ()) _ ⟨q, t, s6, H6, G6, rfl, O7⟩
        | true =>
          simp only [Br_true]
          refine Cl.mono (TClone_ok O7.at_ O7.ok) ?_
          rintro ⟨_, _⟩ w8 ⟨t', H8, rfl, h8, y8, k8⟩
          dsimp only
          rw [show Option.isNone (some (⟨t', 0, none⟩ : Addr)) = false from rfl]
          have hb8 := k8.at hb7 (by simp)
          simp only [sxn, hb8, sxl, Nat.reduceAdd]
          have O8 := O7.keeps0 k8
          have s07 := O7.kp.size
          refine Cl.mono (Release_ok O8.at_ O8.ok o.n) ?_
          rintro ⟨g9, d9, _⟩ w9 ⟨H9, t9, f9, k9, _⟩
          refine Cl.mono (Ask_ok t9 (relA_ok O8.ok) ⟨0, BA [], BA [], true⟩) ?_
          rintro ⟨r10, g10, d10, e10, _⟩ w10 ⟨_, _, H10, t10, f10, k10, _⟩
          have d8 : Dj H8 H6 := fun y hy hy' => by have := y8 y hy; have := O7.at_.bl y hy'; omega
          have d9 : Dj H8 H9 := fun y hy hy' => (f9 y hy').elim (d8 y hy) (fun h => by have := h8.bl y hy; omega)
          have g9' : Dj G6 H9 := fun y hy hy' => (f9 y hy').elim (fun h => O7.dj y h hy) (fun h => by have := O8.rf.bl y hy; omega)
          have s9 := k9.size
          have y9 : ∀ y, H9 y → w.heap.size ≤ y := fun y hy => (f9 y hy).elim (O7.hw y) (fun h => by have := k8.size; omega)
          refine hJ (q, some ⟨t', 0, none⟩, ()) _ ⟨q, t', s6, H8, G6, rfl, ?_⟩
          exact ⟨(h8.keeps k9 d8).keeps k10 d9, (O8.rf.keeps k9 (fun y hg hh => O7.dj y hh hg)).keeps k10 g9', O8.ok, fun y hy hg => by have := y8 y hy; have := O7.rf.bl y hg; omega, fun y hy => by have := y8 y hy; omega, O8.gw, toL_of (toL_of O8.kp k9 O8.hw) k10 y9⟩
  · rw [decide_eq_false (by omega)]
    exact hR (true, ()) _ ⟨rfl, O.kp⟩
end Go.Proofs.Ytmppjgddemlmdaa
