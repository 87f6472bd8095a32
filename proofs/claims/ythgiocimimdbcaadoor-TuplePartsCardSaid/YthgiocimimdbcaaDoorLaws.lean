/- The laws of layer 3: what their code does. Conditions: none. -/
import Derived.Test.YthgiocimimdbcaaDoorTz
set_option linter.unusedVariables false
set_option linter.unusedSimpArgs false
namespace Go.Proofs.YthgiocimimdbcaaDoor
open Go Go.Sx Go.RowKit

theorem Tx.lit {w : World} {b : Nat} {l : List Bs} {t : TypeId} {fr : Nat × Nat} (h : w.heap[b]? = some (.cells (cT l).toArray t fr)) (c : Nat) : Tx w ⟨some ⟨b, 0, none⟩, l.length, c⟩ l :=
  ⟨by have := rdc_row h; rwa [cT_length, ← Nat.mul_one l.length] at this, rfl⟩

theorem j1 : jn [[97], [98]] = ([97, 0, 1, 98, 0, 1], 0) := by decide
theorem j2 : jn [[0]] = ([0, 255, 0, 1], 0) := by decide
theorem p1 : pt [97, 0, 1, 98, 0, 1] = ([[97], [98]], 0) := by have := pt_jn (l := [[97], [98]]) (by rw [j1]); rwa [j1] at this
theorem p2 : pt [97] = ([], 11) := pt_broken (pre := []) (r := [97]) (by decide) rfl (by simp) rfl
theorem t1 (w : World) : Tx (w.alloc (.cells #[.string (BA [97]), .string (BA [98])] 9)) ⟨some ⟨w.heap.size, 0, none⟩, 2, 2⟩ [[97], [98]] := Tx.lit (l := [[97], [98]]) (hp_alloc_new w _) 2
theorem t2 (w : World) : Tx (w.alloc (.cells #[.string (BA [0])] 9)) ⟨some ⟨w.heap.size, 0, none⟩, 1, 1⟩ [[0]] := Tx.lit (l := [[0]]) (hp_alloc_new w _) 1
theorem t3 (w : World) : Tx (w.alloc (.cells #[.string (BA [97])] 9)) ⟨some ⟨w.heap.size, 0, none⟩, 1, 1⟩ [[97]] := Tx.lit (l := [[97]]) (hp_alloc_new w _) 1
theorem sz1 : Sz [[97], [98]] := by
  intro b hb
  have : b.length = 1 := by
    rcases List.mem_cons.1 hb with rfl | hb
    · rfl
    · rcases List.mem_cons.1 hb with rfl | hb
      · rfl
      · cases hb
  omega
theorem sz2 : Sz [[0]] := by
  intro b hb
  have : b.length = 1 := by
    rcases List.mem_cons.1 hb with rfl | hb
    · rfl
    · cases hb
  omega
theorem jl1 (w : World) {m : Int} (g : GM m w) : Cl Tryd.prog 12 [.slice (some ⟨w.heap.size, 0, none⟩) 2 2] true [.sc .s, .sc (.i .i64)] (fun r w' => r.1 = BA [97, 0, 1, 98, 0, 1] ∧ r.2.1 = 0 ∧ Keeps [] w w') (w.alloc (.cells #[.string (BA [97]), .string (BA [98])] 9)) := by
  have n1 : Keeps [] w (w.alloc (.cells #[.string (BA [97]), .string (BA [98])] 9)) := (Keeps.refl [] w).alloc _
  have h := Join_ok (t1 w) sz1 (g.keep n1)
  rw [j1] at h
  exact h.mono fun r w' ⟨a, b, k⟩ => ⟨a, b, n1.trans k (by simp)⟩
theorem jl2 (w : World) {m : Int} (g : GM m w) : Cl Tryd.prog 12 [.slice (some ⟨w.heap.size, 0, none⟩) 1 1] true [.sc .s, .sc (.i .i64)] (fun r w' => r.1 = BA [0, 255, 0, 1] ∧ r.2.1 = 0 ∧ Keeps [] w w') (w.alloc (.cells #[.string (BA [0])] 9)) := by
  have n1 : Keeps [] w (w.alloc (.cells #[.string (BA [0])] 9)) := (Keeps.refl [] w).alloc _
  have h := Join_ok (t2 w) sz2 (g.keep n1)
  rw [j2] at h
  exact h.mono fun r w' ⟨a, b, k⟩ => ⟨a, b, n1.trans k (by simp)⟩

theorem live_ok {w : World} {m : Int} (g : GM m w) : Cl Tryd.prog 8 [] false [.sc .b] (fun r w' => r.1 = true ∧ Keeps [] w w') w := by
  refine Cl_gen fun R hR => ?_
  apply sumpterlaw03_live_call
  unfold sumpterlaw03_live
  simp only [New]
  refine Cl.mono (jl1 w g) ?_
  rintro r2 w2 ⟨a2, b2, k02⟩
  refine Cl.mono (jl2 w2 (g.keep k02)) ?_
  rintro r4 w4 ⟨a4, b4, k4⟩
  have k04 := k02.trans k4 (by simp)
  rw [a2]
  refine Cl.mono (Parts_ok _ (g.keep k04)) ?_
  rintro r5 w5 ⟨s5, b5, f5, k5⟩
  have k05 := k04.trans k5 (by simp)
  rw [p1] at s5 b5
  refine Cl.mono (Parts_ok [97] (g.keep k05)) ?_
  rintro r6 w6 ⟨_, b6, _, k6⟩
  have k06 := k05.trans k6 (by simp)
  rw [p2] at b6
  rw [b2, a4, b4, b5, b6, seq_BA, seq_BA]
  simp only [decide_true, Br, BEq.rfl]
  have n7 : Keeps [] w6 (w6.alloc (.cells #[.string (BA [97]), .string (BA [98])] 9)) := (Keeps.refl [] w6).alloc _
  have t5 := Tx.of (s5.keeps (k6.trans n7 (by simp)) (by simp))
  have l5 : r5.1.len = 2 := t5.len
  have hle : r5.1.len ≤ 9223372036854775807 := by omega
  have hsame := same_ok t5 (t1 w6) hle
  clear s5 b5 f5 k5 k05 b6 a2 b2 a4 b4
  refine Cl.mono hsame ?_
  rintro r8 w8 ⟨e8, k8⟩
  rw [e8]
  simp only [decide_true]
  have k08 := (k06.trans n7 (by simp)).trans k8 (by simp)
  have n9 : Keeps [] w8 (w8.alloc (.cells #[.string (BA [97])] 9)) := (Keeps.refl [] w8).alloc _
  have h1 : (1 : Nat) ≤ 9223372036854775807 := by omega
  have hcmp := Compare_ok (t3 w8) ((t5.keep k8).keep n9) h1 hle
  refine Cl.mono hcmp ?_
  rintro r10 w10 ⟨e10, k10⟩
  refine hR _ _ ⟨?_, (k08.trans n9 (by simp)).trans k10 (by simp)⟩
  show (r10.1 == -1) = true
  rw [e10]
  decide

theorem TupleJoins_ok {w : World} {m : Int} {a b : Sl} {x y : List Bs} (g : GM m w) (ha : Tx w a x) (hb : Tx w b y) (hla : a.len ≤ 9223372036854775807) (hlb : b.len ≤ 9223372036854775807) (hz : Sz x) :
    Cl Tryd.prog 7 [.slice a.p a.len a.cap, .slice b.p b.len b.cap] false [.sc .b] (fun r w' => r.1 = true ∧ Keeps [] w w') w := by
  refine Cl_gen fun R hR => ?_
  apply sumpterlaw03_TupleJoins_call
  unfold sumpterlaw03_TupleJoins
  refine Cl.mono (live_ok g) ?_
  rintro r1 w1 ⟨e1, k1⟩
  refine Cl.mono (Join_ok (ha.keep k1) hz (g.keep k1)) ?_
  rintro r2 w2 ⟨e2, f2, k2⟩
  have k02 := k1.trans k2 (by simp)
  refine Cl.mono (rJoin_ok (ha.keep k02) hz) ?_
  rintro r3 w3 ⟨e3, f3, k3⟩
  have k03 := k02.trans k3 (by simp)
  refine Cl.mono (Under_ok (ha.keep k03) hz (g.keep k03)) ?_
  rintro r4 w4 ⟨e4, f4, k4⟩
  have k04 := k03.trans k4 (by simp)
  rw [e4]
  obtain ⟨q, hq⟩ : ∃ q, w4.heap.size = q := ⟨_, rfl⟩
  simp (disch := ((try simp only [sx]); first | done | omega)) only [sx, sxc, sxl, Nat.zero_add, Nat.reduceAdd, Nat.reduceLT, true_and]
  generalize hw5 : setObjW (w4.alloc _) w4.heap.size _ = w5
  have k5 : Keeps [] w4 w5 := by subst hw5; exact ((Keeps.refl [] w4).alloc _).setObjW (.inr (Nat.le_refl _)) _
  have q5 : w5.heap[w4.heap.size]? = some (.cells #[.string (BA (un x).1), .string (BA (un x).2.1)] 35) := by subst hw5; exact hp_setObjW_same (by rw [World.size_alloc]; omega)
  have k05 := k04.trans k5 (by simp)
  refine Cl.mono (rUnder_ok (ha.keep k05) hz) ?_
  rintro r6 w6 ⟨e6, f6, k6⟩
  have k06 := k05.trans k6 (by simp)
  have q6 := k6.at q5 (by simp)
  have h6 := k6.size
  have h5 := hp_lt q5
  rw [e6]
  simp (disch := ((try simp only [sx]); first | done | omega)) only [sx, sxc, sxl, Nat.zero_add, Nat.reduceAdd, Nat.reduceLT, true_and]
  generalize hw7 : setObjW (w6.alloc _) w6.heap.size _ = w7
  have k7 : Keeps [] w6 w7 := by subst hw7; exact ((Keeps.refl [] w6).alloc _).setObjW (.inr (Nat.le_refl _)) _
  have q7 : w7.heap[w6.heap.size]? = some (.cells #[.string (BA (un x).1), .string (BA (un x).2.1)] 35) := by subst hw7; exact hp_setObjW_same (by rw [World.size_alloc]; omega)
  have q7' := k7.at q6 (by simp)
  have k07 := k06.trans k7 (by simp)
  rw [e1, e2, e3, f2, f3, f4, f6]
  simp only [sx, sxl, q7, q7', Nat.zero_add, Nat.reduceAdd, seq_refl, BEq.rfl, Bool.and_self, List.getElem?_toArray]
  refine Cl.mono (Compare_ok (ha.keep k07) (hb.keep k07) hla hlb) ?_
  rintro r12 w12 ⟨e12, k12⟩
  have k012 := k07.trans k12 (by simp)
  refine Cl.mono (rCompare_ok (ha.keep k012) (hb.keep k012) hla hlb) ?_
  rintro r13 w13 ⟨e13, k13⟩
  refine hR _ _ ⟨?_, k012.trans k13 (by simp)⟩
  show (r12.1 == r13.1) = true
  rw [e12, e13]
  simp

theorem TupleOrder_ok {w : World} {m : Int} {a b : Sl} {x y : List Bs} (g : GM m w) (ha : Tx w a x) (hb : Tx w b y) (hla : a.len ≤ 9223372036854775807) (hlb : b.len ≤ 9223372036854775807) (hz : Sz x) (hz' : Sz y) :
    Cl Tryd.prog 4 [.slice a.p a.len a.cap, .slice b.p b.len b.cap] false [.sc .b] (fun r w' => r.1 = true ∧ Keeps [] w w') w := by
  refine Cl_gen fun R hR => ?_
  apply sumpterlaw03_TupleOrder_call
  unfold sumpterlaw03_TupleOrder
  refine Cl.mono (live_ok g) ?_
  rintro r1 w1 ⟨e1, k1⟩
  refine Cl.mono (Join_ok (ha.keep k1) hz (g.keep k1)) ?_
  rintro r2 w2 ⟨e2, f2, k2⟩
  have k02 := k1.trans k2 (by simp)
  refine Cl.mono (Join_ok (hb.keep k02) hz' (g.keep k02)) ?_
  rintro r3 w3 ⟨e3, f3, k3⟩
  have k03 := k02.trans k3 (by simp)
  refine Jp_of (fun st w' => w3 = w' ∧ st.1 = decide ((jn x).2 ≠ 0 ∨ (jn y).2 ≠ 0)) (fun J4 hJ4 => ?_) ?_
  · rw [f2, f3]
    refine Br_of (fun h => ?_) (fun h => ?_)
    · have h : (jn x).2 ≠ 0 := by simpa using h
      exact hJ4 _ _ ⟨rfl, by simp [h]⟩
    · have h : (jn x).2 = 0 := by simpa using h
      refine hJ4 _ _ ⟨rfl, ?_⟩
      show ((jn y).2 != 0) = _
      by_cases h2 : (jn y).2 = 0 <;> simp [h, h2]
  rintro ⟨_, _⟩ _ ⟨rfl, rfl⟩
  dsimp only
  refine Br_of (fun h => ?_) (fun h => ?_)
  · exact hR _ _ ⟨e1, k03⟩
  have h := of_decide_eq_false h
  have hx : (jn x).2 = 0 := by
    by_cases h1 : (jn x).2 = 0
    · exact h1
    · exact absurd (.inl h1) h
  have hy : (jn y).2 = 0 := by
    by_cases h1 : (jn y).2 = 0
    · exact h1
    · exact absurd (.inr h1) h
  rw [e2, e3]
  refine Cl.mono (Parts_ok _ (g.keep k03)) ?_
  rintro r6 w6 ⟨s6, b6, f6, k6⟩
  have k06 := k03.trans k6 (by simp)
  rw [pt_jn hx] at s6 b6
  have hjx : (jn x).1 = ecs x := by unfold jn at hx ⊢; split at hx; · simp at hx
                                    split at hx; · simp at hx
                                    rename_i h1 h2; rw [if_neg h1, if_neg h2]
  have hjy : (jn y).1 = ecs y := by unfold jn at hy ⊢; split at hy; · simp at hy
                                    split at hy; · simp at hy
                                    rename_i h1 h2; rw [if_neg h1, if_neg h2]
  have hcmp : Lib.compareBytes (jn x).1 (jn y).1 = cmpL x y := by rw [hjx, hjy, cb_ecs]
  refine Jp_of (fun st w' => w6 = w' ∧ st.1 = if cmpL x y = -1 then -1 else 0) (fun J7 hJ7 => ?_) ?_
  · rw [slt_BA, hcmp]
    refine Br_of (fun h => ?_) (fun h => ?_)
    · have h := of_decide_eq_true h
      exact hJ7 _ _ ⟨rfl, by rw [if_pos h]⟩
    · have h := of_decide_eq_false h
      exact hJ7 _ _ ⟨rfl, by rw [if_neg h]⟩
  rintro ⟨_, _⟩ _ ⟨rfl, rfl⟩
  dsimp only
  refine Jp_of (fun st w' => w6 = w' ∧ st.1 = cmpL x y) (fun J9 hJ9 => ?_) ?_
  · rw [slt_BA, seq_BA, hcmp]
    have hz0 : ((jn x).1 = (jn y).1) ↔ cmpL x y = 0 := by rw [← hcmp]; exact cb_zero.symm
    rcases cmpL_range x y with h | h | h
    · simp only [h, decide_true, Bool.true_or, Bool.not_true, Br]
      exact hJ9 _ _ ⟨rfl, by simp [h]⟩
    · have := hz0.2 h
      simp only [h, this, decide_true, Bool.or_true, Bool.not_true, Br]
      exact hJ9 _ _ ⟨rfl, by simp [h]⟩
    · have h1 : ¬ (jn x).1 = (jn y).1 := fun e => by rw [hz0.1 e] at h; simp at h
      rw [decide_eq_false h1, decide_eq_false (by rw [h]; decide)]
      simp only [Bool.or_self, Bool.not_false, Br]
      exact hJ9 _ _ ⟨rfl, h.symm⟩
  rintro ⟨_, _⟩ _ ⟨rfl, rfl⟩
  dsimp only
  rw [e1, b6]
  simp only [Br, BEq.rfl]
  have t6 := Tx.of s6
  refine Cl.mono (same_ok t6 (ha.keep k06) (by rw [t6.len, ← ha.len]; exact hla)) ?_
  rintro r11 w11 ⟨e11, k11⟩
  rw [e11]
  simp only [decide_true]
  have k011 := k06.trans k11 (by simp)
  refine Cl.mono (Compare_ok (ha.keep k011) (hb.keep k011) hla hlb) ?_
  rintro r12 w12 ⟨e12, k12⟩
  refine hR _ _ ⟨?_, k011.trans k12 (by simp)⟩
  show (r12.1 == cmpL x y) = true
  rw [e12]
  simp

end Go.Proofs.YthgiocimimdbcaaDoor
