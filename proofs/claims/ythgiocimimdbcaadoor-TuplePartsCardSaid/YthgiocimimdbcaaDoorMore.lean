/- The laws TupleCompare, TupleMore and TupleParts: what their code does. Conditions: none. -/
import Derived.Test.YthgiocimimdbcaaDoorLaws
import Derived.Shelf.Vars
set_option linter.unusedVariables false
set_option linter.unusedSimpArgs false
namespace Go.Proofs.YthgiocimimdbcaaDoor
open Go Go.Sx Go.RowKit

theorem TupleCompare_ok {w : World} {m : Int} {a b c : Sl} {x y z : List Bs} (g : GM m w) (ha : Tx w a x) (hb : Tx w b y) (hc : Tx w c z) (hla : a.len ≤ 9223372036854775807) (hlb : b.len ≤ 9223372036854775807) (hlc : c.len ≤ 9223372036854775807) :
    Cl Tryd.prog 5 [.slice a.p a.len a.cap, .slice b.p b.len b.cap, .slice c.p c.len c.cap] false [.sc .b] (fun r w' => r.1 = true ∧ Keeps [] w w') w := by
  refine Cl_gen fun R hR => ?_
  apply sumpterlaw03_TupleCompare_call
  unfold sumpterlaw03_TupleCompare
  refine Cl.mono (live_ok g) ?_
  rintro r1 w1 ⟨e1, k1⟩
  refine Cl.mono (Compare_ok (ha.keep k1) (hb.keep k1) hla hlb) ?_
  rintro r2 w2 ⟨e2, k2⟩
  have k02 := k1.trans k2 (by simp)
  refine Cl.mono (Compare_ok (hb.keep k02) (hc.keep k02) hlb hlc) ?_
  rintro r3 w3 ⟨e3, k3⟩
  have k03 := k02.trans k3 (by simp)
  refine Cl.mono (Compare_ok (ha.keep k03) (hc.keep k03) hla hlc) ?_
  rintro r4 w4 ⟨e4, k4⟩
  have k04 := k03.trans k4 (by simp)
  rw [e1, e2, e3, e4]
  have hr := cmpL_range x y
  refine Jp_of (fun st w' => st.1 = false ∧ Keeps [] w w') (fun J5 hJ5 => ?_) ?_
  · rw [show decide (cmpL x y < -1) = false from decide_eq_false (by omega), show decide (cmpL x y > 1) = false from decide_eq_false (by omega)]
    simp only [Br]
    refine Cl.mono (Compare_ok (hb.keep k04) (ha.keep k04) hlb hla) ?_
    rintro r7 w7 ⟨e7, k7⟩
    have k07 := k04.trans k7 (by simp)
    have e8 : (cmpL x y != w64 (0 - r7.1)) = false := by
      rw [e7, cmpL_neg x y, show (0 : Int) - -cmpL x y = cmpL x y by omega, w64_in (by omega) (by omega)]
      simp
    rw [e8]
    refine Cl.mono (Compare_ok (ha.keep k07) (ha.keep k07) hla hla) ?_
    rintro r8 w8 ⟨e9, k8⟩
    have k08 := k07.trans k8 (by simp)
    rw [e9, cmpL_self]
    simp only [bne_self_eq_false]
    refine Cl.mono (same_ok (ha.keep k08) (hb.keep k08) hla) ?_
    rintro r9 w9 ⟨e10, k9⟩
    refine hJ5 _ _ ⟨?_, k08.trans k9 (by simp)⟩
    show (!((cmpL x y == 0) == r9.1)) = false
    rw [e10]
    by_cases h : x = y
    · have := cmpL_zero.2 h
      simp [h, this, cmpL_self]
    · have h2 : ¬ cmpL x y = 0 := fun e => h (cmpL_zero.1 e)
      simp [h, h2]
  rintro ⟨_, _⟩ w5 ⟨rfl, k05⟩
  simp only [Br]
  have fin : ∀ b : Bool, b = true → R (b, ()) w5 := fun b hb => hR _ _ ⟨hb, k05⟩
  by_cases hxy : cmpL x y = cmpL y z
  · have hz : cmpL x z = cmpL x y := by
      rcases hr with h | h | h
      · rw [h]; exact cmpL_trans h (by rw [← hxy]; exact h)
      · have := cmpL_zero.1 h
        subst this
        exact hxy.symm
      · have h1 : cmpL y x = -1 := by rw [cmpL_neg x y, h]
        have h2 : cmpL z y = -1 := by rw [cmpL_neg y z, ← hxy, h]
        have h3 := cmpL_trans h2 h1
        rw [cmpL_neg z x, h3, h]
        rfl
    rw [show (cmpL x y != cmpL y z) = false by simp [hxy], show (cmpL x z == cmpL x y) = true by simp [hz]]
    simp only
    by_cases h0 : cmpL x y = 0
    · rw [show (cmpL x y != 0) = false by simp [h0]]
      exact fin _ (by simp [hz, hxy])
    · rw [show (cmpL x y != 0) = true by simp [h0]]
      exact fin _ rfl
  · rw [show (cmpL x y != cmpL y z) = true by simpa using hxy]
    simp only
    by_cases h0 : cmpL x y = 0
    · rw [show (cmpL x y != 0) = false by simp [h0]]
      have := cmpL_zero.1 h0
      subst this
      exact fin _ (by simp)
    · rw [show (cmpL x y != 0) = true by simp [h0]]
      exact fin _ rfl

theorem TupleMore_ok {w : World} {m : Int} {a : Sl} {x : List Bs} {p : Bs} (g : GM m w) (ha : Tx w a x) (hla : a.len * 16 ≤ 140737488355000) (hz : Sz x) (hp : p.length ≤ 140737488355328) :
    Cl Tryd.prog 6 [.slice a.p a.len a.cap, .string (BA p)] false [.sc .b] (fun r w' => r.1 = true ∧ Keeps [] w w') w := by
  refine Cl_gen fun R hR => ?_
  apply sumpterlaw03_TupleMore_call
  unfold sumpterlaw03_TupleMore
  refine Cl.mono (live_ok g) ?_
  rintro r1 w1 ⟨e1, k1⟩
  refine Cl.mono (Join_ok (ha.keep k1) hz (g.keep k1)) ?_
  rintro r2 w2 ⟨e2, f2, k2⟩
  have k02 := k1.trans k2 (by simp)
  have hal := ha.len
  refine App_of (size := 1) (bytes := 16) (cs := []) (new := cT x) (SlC.nil _ _) ((ha.keep k02).rd) (by rw [cT_length]; omega) (cT_one x) (by kernel_rfl) (by simp; omega) (by simp; omega) ?_
  intro r3 w3 s3 l3 k3 b3
  rw [blk_zero rfl] at k3
  have k03 := k02.trans k3 (by simp)
  have f3 : ∀ y ∈ blk r3, w2.heap.size ≤ y := fun y hy => (b3 y hy).elim (fun h => by rw [blk_zero rfl] at h; cases h) id
  rw [List.nil_append] at s3
  simp only [Nat.zero_add] at l3
  refine NewApp_of (size := 1) (bytes := 16) (m := 1) (cs := cT x) (new := [.string (BA p)]) s3 rfl (by simp [Value.oneCell']) (by kernel_rfl) (by omega) (by omega) ?_
  intro r5 w5 s5 l5 k5 b5
  have hz2 := k02.size
  have k05 : Keeps [] w w5 := k03.trans k5 (fun y hy => .inr (by have := f3 y hy; omega))
  have s5' : SlC w5 r5 1 (cT (x ++ [p])) := by rw [cT_app]; exact s5
  have hz5 : Sz (x ++ [p]) := fun b hb => by
    rcases List.mem_append.1 hb with h | h
    · exact hz b h
    · simp at h; subst h; exact hp
  refine Cl.mono (Join_ok (Tx.of s5') hz5 (g.keep k05)) ?_
  rintro r6 w6 ⟨e6, f6, k6⟩
  have k06 := k05.trans k6 (by simp)
  have fin : ∀ b : Bool, b = true → R (b, ()) w6 := fun b hb => hR _ _ ⟨hb, k06⟩
  have hlx := ecs_app x [p]
  refine Jp_of (fun st w' => w6 = w' ∧ st.1 = decide ((jn x).2 ≠ 0 ∨ (jn (x ++ [p])).2 ≠ 0)) (fun J7 hJ7 => ?_) ?_
  · rw [f2, f6]
    refine Br_of (fun h => ?_) (fun h => ?_)
    · have h : (jn x).2 ≠ 0 := by simpa using h
      exact hJ7 _ _ ⟨rfl, by simp [h]⟩
    · have h : (jn x).2 = 0 := by simpa using h
      refine hJ7 _ _ ⟨rfl, ?_⟩
      show ((jn (x ++ [p])).2 != 0) = _
      by_cases h2 : (jn (x ++ [p])).2 = 0 <;> simp [h, h2]
  rintro ⟨_, _⟩ _ ⟨rfl, rfl⟩
  dsimp only
  rw [e1, f6]
  refine Br_of (fun h => ?_) (fun h => ?_)
  · have h := of_decide_eq_true h
    simp only [Br]
    by_cases h2 : (jn (x ++ [p])).2 = 0
    · rw [show ((jn (x ++ [p])).2 != 0) = false by simp [h2]]
      have h1 : (jn x).2 ≠ 0 := h.resolve_right (by simp [h2])
      refine fin _ ?_
      -- what was too much is too much with one more
      have hx0 : x.length = 0 := by
        unfold jn at h1 h2
        rw [List.length_append] at h2
        split at h2
        · simp at h2
        · rename_i h3
          split at h2
          · simp at h2
          · rename_i h4
            rw [hlx, List.length_append] at h4
            simp only [List.length_cons, List.length_nil] at h3
            split at h1
            · omega
            · split at h1
              · omega
              · simp at h1
      simp [hal, hx0]
    · rw [show ((jn (x ++ [p])).2 != 0) = true by simpa using h2]
      exact fin _ rfl
  · have h := of_decide_eq_false h
    have hx : (jn x).2 = 0 := by
      by_cases h1 : (jn x).2 = 0
      · exact h1
      · exact absurd (.inl h1) h
    have hy : (jn (x ++ [p])).2 = 0 := by
      by_cases h1 : (jn (x ++ [p])).2 = 0
      · exact h1
      · exact absurd (.inr h1) h
    have ej : ∀ {l : List Bs}, (jn l).2 = 0 → (jn l).1 = ecs l := by
      intro l hl
      unfold jn at hl ⊢
      split at hl
      · simp at hl
      · split at hl
        · simp at hl
        · rename_i h1 h2
          rw [if_neg h1, if_neg h2]
    rw [e2, e6, ej hx, ej hy, hlx, BA_size, BA_size, List.length_append]
    have hep : 2 ≤ (ecs [p]).length := ecs_len_ge [p]
    simp only [Br]
    rw [decide_eq_true (by omega)]
    simp only
    refine ⟨⟨by omega, by omega⟩, ?_⟩
    refine fin _ ?_
    rw [Int.toNat_natCast, BA_extract, seq_BA]
    simp

/-- A slice of texts that came in. -/
theorem Tx.arg {w : World} {s : Sl} {ss : List ByteArray} (h : RdC s.p s.len (ss.map Value.string) w) : Tx w s (ss.map fun x => x.data.toList) := by
  have e : cT (ss.map fun x => x.data.toList) = ss.map Value.string := by
    unfold cT
    rw [List.map_map]
    exact List.map_congr_left fun x _ => congrArg Value.string (BA_of x)
  refine ⟨by rw [e, Nat.mul_one]; exact h, ?_⟩
  have := h.1
  simpa using this.symm
theorem Sz.arg {ss : List ByteArray} (h : ∀ x ∈ ss, x.size ≤ 140737488355328) : Sz (ss.map fun x => x.data.toList) := by
  intro b hb
  obtain ⟨x, hx, rfl⟩ := List.mem_map.1 hb
  have := h x hx
  have e : x.data.toList.length = x.size := by simp
  omega
theorem GM.shaped {w : World} (h : w.ShapedOpen Tryd.prog) : ∃ m, GM m w :=
  Go.Proofs.cell_of_shapedOpen_int (g := 0) (t := 3) (zero := #[.int .i64 0]) h (of_decide_eq_true (by kernel_rfl)) (by kernel_rfl) rfl (by kernel_rfl) (by kernel_rfl) Tryd.underlying3

theorem more_law {w : World} {m : Int} {s : Sl} {ss : List ByteArray} {p : ByteArray} (g : GM m w) (h : RdC s.p s.len (ss.map Value.string) w) (hx : ∀ x ∈ ss, x.size ≤ 140737488355328) (hl : s.len * Tryd.prog.bytesOf 9 ≤ 140737488351232) (hp : p.size ≤ 140737488355328) :
    Cl Tryd.prog 6 [.slice s.p s.len s.cap, .string p] false [.sc .b] (fun r w' => r.1 = true ∧ Keeps [] w w') w := by
  have e : Tryd.prog.bytesOf 9 = 16 := by kernel_rfl
  rw [e] at hl
  have h1 := TupleMore_ok (p := p.data.toList) g (Tx.arg h) (by omega) (Sz.arg hx) (by have e : p.data.toList.length = p.size := by simp
                                                                                       omega)
  rwa [BA_of] at h1

end Go.Proofs.YthgiocimimdbcaaDoor
