/- CacheGoes: 'same', walked. -/
import Derived.Test.YtelojafogbmbcaaCw
import Derived.Test.YtelojafogbmbcaaCh
set_option linter.unusedVariables false
set_option linter.unusedSimpArgs false
namespace Go.Proofs.Ytelojafogbmbcaa
open Go Go.Sx

theorem any_pidx (ps : List (Option Pg)) (id : Int) : ps.any (hasId id) = (pidx ps id).isSome := by
  unfold pidx
  rw [List.findIdx?_isSome]

theorem BkX.grow {w w' : World} {b m : Nat} {sl : Sl} {σ : BSt} (h : BkX w b m sl σ) (hk : Keeps [] w w') : BkX w' b m sl σ := h.keepsP (G := fun _ => False) (hk.toP (by simp)) (fun h => h) (fun h => h) (fun _ _ h => h)

set_option maxHeartbeats 1000000 in
theorem same_ok {w : World} {b1 b2 c1 c2 N n n2 : Nat} {s : CSt (refB b1)} {H1 H2 : Nat → Prop} (hC : CW (refB b1) N c1 n s w H1) (hR2 : RW (β := b1) w c2 b2 N n2 s H2) (hd : (dirtyIds s.ps).length ≤ 6) :
    Cl Try.prog i_sumpterlaw10_same [.pointer (some ⟨c1, 0, none⟩), .pointer (some ⟨b1, 0, none⟩), .pointer (some ⟨c2, 0, none⟩)] false [.sc .b] (fun r w' => r.1 = true ∧ Keeps [] w w') w := by
  refine Cl_gen fun R hR => ?_
  apply sumpterlaw10_same_call
  unfold sumpterlaw10_same
  obtain ⟨F, G, hc⟩ := hC
  obtain ⟨m1, sl1, hB1, _⟩ := (hc.bk : BkAt b1 w G s.b.σ)
  obtain ⟨sl, G2, hr⟩ := hR2
  obtain ⟨m2, sl2, hB2, _⟩ := hr.bk
  have hX := hr.rc
  have hn := hc.rs
  have hnn : s.b.σ.calls.length + n ≤ 1099511627776 := hn
  refine Cl.mono (Dirty_ok hc.ca (by omega)) ?_
  rintro r1 w1 ⟨d1, p1, o1, s1, k1, f1⟩
  have hr' : RW (β := b1) w1 c2 b2 N n2 s H2 := RW.keeps ⟨sl, G2, hr⟩ (F := fun _ => False) (k1.toP (by simp)) (fun _ _ h => h)
  refine Cl.mono (rDirty_ok hr') ?_
  rintro r2 w2 ⟨d2, p2, o2, s2, k2, f2⟩
  have hdd : d1 = d2 := ord_one (p1.trans p2.symm) o1 o2
  subst hdd
  have k02 : Keeps [] w w2 := k1.trans k2 (by simp)
  have s1' : SlC w2 r1.1 1 (cI d1) := s1.keeps k2 (by simp)
  have l1 : r1.1.len = d1.length := by have := s1'.len; rw [cI_len] at this; omega
  have l2 : r2.1.len = d1.length := by have := s2.len; rw [cI_len] at this; omega
  have hd1 : d1.length ≤ 6 := by rw [p1.length_eq]; exact hd
  have f2' : ∀ x ∈ blk r2.1, ∀ y ∈ blk r1.1, x ≠ y := fun x hx y hy e => by
    have := f2 x hx
    have := s1.lt y hy
    omega
  have z2 := k02.size
  have z1 := k1.size
  -- the lengths and the logs
  refine Jp_of (fun st w' => st = (false, ()) ∧ Keeps [] w2 w') ?_ ?_
  · intro J hJ
    obtain ⟨t1, x1⟩ := (hB1.grow k02).box
    obtain ⟨t2, x2⟩ := (hB2.grow k02).box
    obtain ⟨t3, x3⟩ := (hX.grow k02).box
    have e1 := hB1.row.slen encC_length (by omega)
    have e2 := hB2.row.slen encC_length (by omega)
    rw [l1, l2, show (((d1.length : Nat) : Int) != ((d1.length : Nat) : Int)) = false from by simp]
    simp only [sx, sxl, x1, x2, x3, Nat.zero_add, Nat.reduceAdd, e1, e2]
    rw [show (((s.b.σ.calls.length : Nat) : Int) != ((s.b.σ.calls.length : Nat) : Int)) = false from by simp]
    simp only [sx, sxl, x1, x2, x3, Nat.zero_add, Nat.reduceAdd]
    rw [show (s.b.σ.log != s.b.σ.log) = false from by simp]
    exact hJ _ _ ⟨rfl, (Keeps.refl [] w2).drew⟩
  rintro _ w3 ⟨rfl, k3⟩
  simp only [sx]
  -- what is dirty
  refine ⟨fun m st w' => ∃ (i : Nat) (e : List Int), st = (false, (i : Int), ()) ∧ m = d1.length - i ∧ i ≤ d1.length ∧ e.length = d1.length ∧ (∀ j, i ≤ j → e[j]? = d1[j]?) ∧ SlC w' r1.1 1 (cI e) ∧ SlC w' r2.1 1 (cI d1) ∧ Keeps [] w w', ⟨d1.length, 0, d1, rfl, by omega, by omega, rfl, fun _ _ => rfl, s1'.keeps k3 (by simp), s2.keeps k3 (by simp), k02.trans k3 (by simp)⟩, ?_⟩
  rintro _ _ w4 ⟨i, e, rfl, rfl, hi, he, hej, g1, g2, k4⟩
  dsimp only
  rw [l1]
  by_cases hil : i < d1.length
  · rw [decide_eq_true (by omega)]
    simp only [sx]
    obtain ⟨x, hx⟩ : ∃ x, d1[i]? = some x := ⟨_, List.getElem?_eq_getElem hil⟩
    have g1d : SlC w4.drew r1.1 1 (cI e) := g1.keeps ((Keeps.refl [] w4).drew) (by simp)
    have g2d : SlC w4.drew r2.1 1 (cI d1) := g2.keeps ((Keeps.refl [] w4).drew) (by simp)
    refine Ix_c g1d (by rw [hej i (Nat.le_refl _)]; exact hx) ?_
    refine Ix_c g2d hx ?_
    rw [show (x != x) = false from by simp]
    simp only [sx]
    refine Ix_s g1d (by omega) (-7) ?_
    intro w5 g5 k5
    refine ⟨d1.length - (i + 1), by omega, i + 1, e.set i (-7), by rw [show w64 ((i : Int) + 1) = ((i + 1 : Nat) : Int) from w64_nat (n := i + 1) (by omega)], rfl, by omega, by simp [he], fun j hj => by rw [List.getElem?_set_ne (by omega)]; exact hej j (by omega), g5, g2d.keeps k5 (fun x hx hm => f2' x hx x hm rfl), k4.drew.trans k5 (fun x hx => .inr (by have := f1 x hx; omega))⟩
  rw [decide_eq_false (by omega)]
  -- the calls
  obtain ⟨t1, x1⟩ := (hB1.grow k4).box
  have e1 := hB1.row.slen encC_length (by omega)
  have e2 := hB2.row.slen encC_length (by omega)
  simp only [sx, sxl, x1, Nat.zero_add, Nat.reduceAdd]
  refine ⟨fun m st w' => ∃ i : Nat, st = (false, (i : Int), ()) ∧ m = s.b.σ.calls.length - i ∧ i ≤ s.b.σ.calls.length ∧ Keeps [] w w', ⟨s.b.σ.calls.length, 0, rfl, by omega, by omega, k4⟩, ?_⟩
  rintro _ _ w5 ⟨i, rfl, rfl, hi, k5⟩
  dsimp only
  rw [e1]
  by_cases hil : i < s.b.σ.calls.length
  · rw [decide_eq_true (by omega)]
    obtain ⟨cl, hcl⟩ : ∃ cl, s.b.σ.calls[i]? = some cl := ⟨_, List.getElem?_eq_getElem hil⟩
    have y1 := hB1.grow k5
    have y2 := hB2.grow k5
    obtain ⟨t1, x1⟩ := y1.box
    obtain ⟨t2, x2⟩ := y2.box
    obtain ⟨t3, x3⟩ := (hX.grow k5).box
    simp only [sx, sxl, x1, x2, x3, Nat.zero_add, Nat.reduceAdd]
    obtain ⟨ba, bo, hp, _⟩ := y1.row.base (by omega)
    obtain ⟨ba', bo', hp', _⟩ := y2.row.base (by omega)
    have hit := fun j hj => y1.row.item encC_length hp hcl j hj
    have hit' := fun j hj => y2.row.item encC_length hp' hcl j hj
    have a0 : cellO w5.heap[ba]? (bo + i * 4 + 0) = some (.int .i64 cl.kind) := hit 0 (by omega)
    have a1 : cellO w5.heap[ba]? (bo + i * 4 + 1) = some (.int .i64 cl.id) := hit 1 (by omega)
    have a2 : cellO w5.heap[ba]? (bo + i * 4 + 2) = some (.int .u64 cl.lsn) := hit 2 (by omega)
    have a3 : cellO w5.heap[ba]? (bo + i * 4 + 3) = some (.string (BA cl.bytes)) := hit 3 (by omega)
    have b0 : cellO w5.heap[ba']? (bo' + i * 4 + 0) = some (.int .i64 cl.kind) := hit' 0 (by omega)
    have b1 : cellO w5.heap[ba']? (bo' + i * 4 + 1) = some (.int .i64 cl.id) := hit' 1 (by omega)
    have b2 : cellO w5.heap[ba']? (bo' + i * 4 + 2) = some (.int .u64 cl.lsn) := hit' 2 (by omega)
    have b3 : cellO w5.heap[ba']? (bo' + i * 4 + 3) = some (.string (BA cl.bytes)) := hit' 3 (by omega)
    rw [Ix_base hp (by omega) (by omega), Int.toNat_natCast]
    simp only [sx, sxl, a0, a1, a2, a3, x3, x2, Nat.zero_add, Nat.reduceAdd]
    rw [Ix_base hp' (by omega) (by omega), Int.toNat_natCast]
    simp only [sx, sxl, b0, b1, b2, b3, beq_self_eq_true, seq_refl, Bool.and_self, Bool.not_true]
    exact ⟨s.b.σ.calls.length - (i + 1), by omega, i + 1, by rw [show w64 ((i : Int) + 1) = ((i + 1 : Nat) : Int) from w64_nat (n := i + 1) (by omega)], rfl, by omega, k5.drew⟩
  rw [decide_eq_false (by omega)]
  simp only [sx]
  -- which are at hand
  refine ⟨fun m st w' => ∃ i : Nat, st = (false, (i : Int) - 1, ()) ∧ m = 11 - i ∧ i ≤ 11 ∧ Keeps [] w w', ⟨11, 0, rfl, by omega, by omega, k5⟩, ?_⟩
  rintro _ _ w6 ⟨i, rfl, rfl, hi, k6⟩
  dsimp only
  by_cases hi9 : i ≤ 10
  · rw [decide_eq_true (by omega)]
    obtain ⟨t3, x3⟩ := (hX.grow k6).box
    have hl := hX.slen
    have hln := hX.ln
    simp only [sx, sxl, x3, Nat.zero_add]
    refine ⟨fun m st w' => ∃ j : Nat, st = ((s.ps.take j).any (hasId ((i : Int) - 1)), (j : Int), ()) ∧ m = s.ps.length - j ∧ j ≤ s.ps.length ∧ Keeps [] w w', ⟨s.ps.length, 0, by simp, by omega, by omega, k6⟩, ?_⟩
    rintro _ _ w7 ⟨j, rfl, rfl, hj, k7⟩
    dsimp only
    rw [hl]
    by_cases hjl : j < s.ps.length
    · rw [decide_eq_true (by omega)]
      simp only [sx]
      obtain ⟨o, ho⟩ : ∃ o, s.ps[j]? = some o := ⟨_, List.getElem?_eq_getElem hjl⟩
      have htk : (s.ps.take (j + 1)).any (hasId ((i : Int) - 1)) = ((s.ps.take j).any (hasId ((i : Int) - 1)) || hasId ((i : Int) - 1) o) := by rw [List.take_add_one, ho, List.any_append]; simp
      refine Jp_of (fun st w' => st = ((s.ps.take (j + 1)).any (hasId ((i : Int) - 1)), ()) ∧ Keeps [] w w') ?_ ?_
      case refine_2 =>
        rintro _ w8 ⟨rfl, k8⟩
        exact ⟨s.ps.length - (j + 1), by omega, j + 1, by rw [show w64 ((j : Int) + 1) = ((j + 1 : Nat) : Int) from w64_nat (n := j + 1) (by omega)], rfl, by omega, k8⟩
      intro J hJ
      refine (hX.grow k7).at ho fun pb po hp hbk hat => ?_
      have e0 := hat 0 (by omega)
      have e1 := hat 1 (by omega)
      have e2 := hat 2 (by omega)
      have e3 := hat 3 (by omega)
      have e4 := hat 4 (by omega)
      have e5 := hat 5 (by omega)
      have e6 := hat 6 (by omega)
      cases o with
      | none =>
        simp only [encP, sxl] at e0 e1 e2 e3 e4 e5 e6
        rw [Nat.add_zero] at e0
        simp (disch := ((try simp only [sx]); first | done | omega)) only [sx, sxc, sxl, e0, e1, e2, e3, e4, e5, e6, Nat.zero_add, Nat.add_zero, Nat.reduceAdd, Nat.reduceLT, true_and]
        have hkn : Keeps [] w7 (setObjW (w7.alloc (.cells #[.bool false, .int .i64 0, .int .i64 0, .string (BA []), .bool false, .bool false, .int .u64 0] 79)) w7.heap.size (.cells #[.bool false, .int .i64 0, .int .i64 0, .string (BA []), .bool false, .bool false, .int .u64 0] 79)) := ((Keeps.refl [] w7).alloc _).setObjW (.inr (by omega)) _
        refine Br_of (fun hc => hJ _ _ ⟨?_, k7.trans hkn (by simp)⟩) (fun hc => ?_)
        · rw [htk, hc]; rfl
        · simp (disch := ((try simp only [sx]); first | done | omega)) only [sx, sxc, sxl, Nat.zero_add, Nat.add_zero, Nat.reduceAdd, Nat.reduceLT, true_and]
          refine hJ _ _ ⟨?_, k7.trans hkn (by simp)⟩
          rw [htk, hc]; rfl
      | some p =>
        simp only [encP, sxl] at e0 e1 e2 e3 e4 e5 e6
        rw [Nat.add_zero] at e0
        simp (disch := ((try simp only [sx]); first | done | omega)) only [sx, sxc, sxl, e0, e1, e2, e3, e4, e5, e6, Nat.zero_add, Nat.add_zero, Nat.reduceAdd, Nat.reduceLT, true_and]
        have hkn : Keeps [] w7 (setObjW (w7.alloc (.cells #[.bool false, .int .i64 0, .int .i64 0, .string (BA []), .bool false, .bool false, .int .u64 0] 79)) w7.heap.size (.cells #[.bool true, .int .i64 p.id, .int .i64 p.pins, .string (BA p.bytes), .bool p.touched, .bool p.dirty, .int .u64 p.lsn] 79)) := ((Keeps.refl [] w7).alloc _).setObjW (.inr (by omega)) _
        refine Br_of (fun hc => hJ _ _ ⟨?_, k7.trans hkn (by simp)⟩) (fun hc => ?_)
        · rw [htk, hc]; rfl
        · simp (disch := ((try simp only [sx]); first | done | omega)) only [sx, sxc, sxl, Nat.zero_add, Nat.add_zero, Nat.reduceAdd, Nat.reduceLT, true_and]
          refine hJ _ _ ⟨?_, k7.trans hkn (by simp)⟩
          rw [htk, hc]; rfl
    · rw [decide_eq_false (by omega)]
      simp only [sx]
      rw [List.take_of_length_le (by omega), any_pidx]
      refine Cl.mono (Has_ok (hc.ca.keeps (G := fun _ => False) (k7.toP (by simp)) (fun _ _ h => h)) ((i : Int) - 1)) ?_
      rintro r8 _ ⟨rfl, hr8⟩
      rw [hr8]
      simp only [beq_self_eq_true, Bool.not_true, sx]
      exact ⟨11 - (i + 1), by omega, i + 1, by rw [show w64 ((i : Int) - 1 + 1) = ((i + 1 : Nat) : Int) - 1 from by rw [w64_in (by omega) (by omega)]; omega], rfl, by omega, k7⟩
  · rw [decide_eq_false (by omega)]
    exact hR _ _ ⟨rfl, k6⟩

end Go.Proofs.Ytelojafogbmbcaa
