/- The law NetOrder: what the code does. -/
import Derived.Test.YtfkhmbkeniigdaaNet
set_option linter.unusedVariables false
set_option linter.unusedSimpArgs false
namespace Go.Proofs.Ytfkhmbkeniigdaa
open Go Go.Sx

theorem live_ok {w : World} : Cl Try.prog 5 [] false [.sc .b] (fun r w' => r.1 = true ∧ Keeps [] w w') w := by
  apply sumpterlaw07_live_call
  unfold sumpterlaw07_live
  refine Cl.mono net_New_ok ?_
  rintro r1 w1 ⟨h1, hn1, hk1⟩
  rw [h1]
  generalize hp : w.heap.size = p at *
  simp only [sx, Option.isNone_some]
  -- the first letter
  refine ⟨_, _, _, rfl, hp_alloc_new _ _, ?_⟩
  have hka : Keeps [] w1 (setObjW (w1.alloc (.cells #[.int .u8 97] 5)) w1.heap.size (.cells #[.int .u8 97] 5 (1, 2))) := ((Keeps.refl [] w1).alloc _).setObjW (.inr (Nat.le_refl _)) _
  have hb1 : RdB ⟨some ⟨w1.heap.size, 0, none⟩, 1, 1⟩ [97] (setObjW (w1.alloc (.cells #[.int .u8 97] 5)) w1.heap.size (.cells #[.int .u8 97] 5 (1, 2))) :=
    rdb_row [] (hp_setObjW_same (by rw [World.size_alloc]; omega)) rfl 1
  refine Cl.mono (net_Send_ok (hn1.keeps hka (by simp)) hb1 1 0) ?_
  rintro r3 w3 ⟨g3, ⟨fp3, hn3, hf3⟩, hk3⟩
  rw [if_pos (by simp [sendC])] at hn3
  have hs3 := hk3.size
  simp only [sx] at hs3 hf3
  -- the second
  refine ⟨_, _, _, rfl, hp_alloc_new _ _, ?_⟩
  have hkb : Keeps [] w3 (setObjW (w3.alloc (.cells #[.int .u8 98] 5)) w3.heap.size (.cells #[.int .u8 98] 5 (1, 2))) := ((Keeps.refl [] w3).alloc _).setObjW (.inr (Nat.le_refl _)) _
  have hb2 : RdB ⟨some ⟨w3.heap.size, 0, none⟩, 1, 1⟩ [98] (setObjW (w3.alloc (.cells #[.int .u8 98] 5)) w3.heap.size (.cells #[.int .u8 98] 5 (1, 2))) :=
    rdb_row [] (hp_setObjW_same (by rw [World.size_alloc]; omega)) rfl 1
  refine Cl.mono (net_Send_ok (hn3.keeps hkb (by simp)) hb2 2 0) ?_
  rintro r5 w5 ⟨g5, ⟨fp5, hn5, hf5⟩, hk5⟩
  rw [if_pos (by simp [sendC])] at hn5
  have hs5 := hk5.size
  simp only [sx] at hs5 hf5
  -- doubled
  refine Cl.mono (net_Double_yes (k := 0) hn5 (by simp) rfl (by simp)) ?_
  rintro r6 w6 ⟨g6, ⟨fp6, hn6, hf6⟩, hk6⟩
  rw [if_pos (by simp [sendC])] at hn6
  have hs6 := hk6.size
  have g6' : r6.1 = 0 := by rw [g6]; simp [sendC]
  -- taken
  refine Cl.mono (net_Take_yes (k := 1) hn6 (by simp) rfl) ?_
  rintro r7 w7 ⟨t1, t2, t3, t4, hk7, fp7, hn7, hf7, hd7⟩
  have hs7 := hk7.size
  simp only [List.nil_append, List.cons_append, List.eraseIdx_cons_succ, List.eraseIdx_cons_zero] at hn7 t1 t2 t4
  simp (disch := ((try simp only [sx]); first | done | omega)) only [sx, sxc, sxl, Nat.zero_add, Nat.reduceAdd, Nat.reduceLT, true_and]
  rw [t1, t2]
  generalize hw8 : setObjW (w7.alloc (.cells #[.int .i64 0, .int .i64 0, .slice none 0 0] 30)) w7.heap.size
    (.cells #[.int .i64 2, .int .i64 0, .slice r7.1.2.2.1.p r7.1.2.2.1.len r7.1.2.2.1.cap] 30) = w8
  have hk8 : Keeps [] w7 w8 := by subst hw8; exact ((Keeps.refl [] w7).alloc _).setObjW (.inr (Nat.le_refl _)) _
  have hq8 : w8.heap[w7.heap.size]? = some (.cells #[.int .i64 2, .int .i64 0, .slice r7.1.2.2.1.p r7.1.2.2.1.len r7.1.2.2.1.cap] 30) := by
    subst hw8; exact hp_setObjW_same (by rw [World.size_alloc]; omega)
  refine Cl.mono (net_Take_no (i := 5) (hn7.keeps hk8 (by simp)) (by simp)) ?_
  rintro r9 w9 ⟨rfl, hn9, hk9⟩
  have hq9 := hk9.at hq8 (by simp)
  simp (disch := ((try simp only [sx]); first | done | omega)) only [sx, sxc, sxl, Nat.zero_add, Nat.reduceAdd, Nat.reduceLT, true_and]
  generalize hw10 : setObjW (w9.alloc (.cells #[.int .i64 0, .int .i64 0, .slice none 0 0] 30)) w9.heap.size (.cells #[.int .i64 0, .int .i64 0, .slice none 0 0] 30) = w10
  have hk10 : Keeps [] w9 w10 := by subst hw10; exact ((Keeps.refl [] w9).alloc _).setObjW (.inr (Nat.le_refl _)) _
  refine Cl.mono (net_All_ok (hn9.keeps hk10 (by simp)) (by simp) (by simp)) ?_
  rintro r11 w11 ⟨els, a1, a2, hk11, a4, a5⟩
  have hk711 : Keeps [] w7 w11 := ((hk8.trans hk9 (by simp)).trans hk10 (by simp)).trans hk11 (by simp)
  have hq11 := (hk10.trans hk11 (by simp)).at hq9 (by simp)
  have ht11 := (t4.keeps hk711 (by simp)).rdb
  simp only [g6', t3, sx, sxl, hq11, Nat.zero_add, BEq.rfl]
  refine BtoS_of ht11 ?_
  have hs1 : seq (⟨[(98 : UInt8)].toArray⟩ : ByteArray) (BA [98]) = true := seq_refl _
  simp only [hs1, sx]
  refine Cl.mono (net_Len_ok ((hn9.keeps hk10 (by simp)).keeps hk11 (by simp))) ?_
  rintro r15 _ ⟨g15, rfl⟩
  have hlen : r11.1.len = 2 := by
    have := a1.len
    rw [flat_length encE_len, a2.len] at this
    simp at this
    omega
  have hel : els.length = 2 := a2.len
  simp only [g15, hlen, List.length_cons, List.length_nil, Nat.zero_add, Nat.reduceAdd, Int.cast_ofNat_Int, BEq.rfl, sx]
  obtain ⟨b, o, hpb, hbs⟩ := a1.base (by omega)
  obtain ⟨e, he⟩ : ∃ e, els[1]? = some e := ⟨_, List.getElem?_eq_getElem (by omega)⟩
  have hm := a2.mt 1 e ⟨1, 0, [97]⟩ he rfl
  have hrd : ∀ j, j < 3 → cellO w11.heap[b]? (o + 3 + j) = (encE e)[j]? := by
    intro j hj
    rw [Nat.add_assoc, a1.read hpb (by rw [flat_length encE_len, hel]; omega)]
    have := flat_get encE_len els 1 j hj
    rw [Nat.one_mul] at this
    rw [this, he]
    rfl
  have hr0 := hrd 0 (by omega)
  have hr2 := hrd 2 (by omega)
  simp only [encE, sxl, Nat.add_zero] at hr0 hr2
  have hix : ∀ (K : Addr → Pr) (w : World), Ix r11.1 1 3 K w = K ⟨b, o + 3, none⟩ w := fun K w => by
    rw [Ix_base hpb (by omega) (by omega)]
    rfl
  simp only [hix, sx, hr0, hr2, Nat.add_zero]
  refine BtoS_of hm.b.rdb ?_
  have hs2 : seq (⟨[(97 : UInt8)].toArray⟩ : ByteArray) (BA [97]) = true := seq_refl _
  simp only [hs2, hix, sx, hr0, hr2, Nat.add_zero, hm.f, BEq.rfl, true_and]
  have hz1 := hk1.size
  have f3 : ∀ x ∈ fp3, p ≤ x := fun x hx => by
    rcases hf3 x hx with h | h
    · simp at h; omega
    · omega
  have f5 : ∀ x ∈ fp5, p ≤ x := fun x hx => by
    rcases hf5 x hx with h | h
    · exact f3 x h
    · omega
  have f6 : ∀ x ∈ fp6, p ≤ x := fun x hx => by
    rcases hf6 x hx with h | h
    · exact f5 x h
    · omega
  have j3 : Keeps [] w w3 := (hk1.trans hka (by simp)).trans hk3 (by simp; omega)
  have j5 : Keeps [] w w5 := (j3.trans hkb (by simp)).trans hk5 (fun x hx => .inr (by have := f3 x hx; omega))
  have j6 : Keeps [] w w6 := j5.trans hk6 (fun x hx => .inr (by have := f5 x hx; omega))
  have j7 : Keeps [] w w7 := j6.trans hk7 (fun x hx => .inr (by have := f6 x hx; omega))
  exact j7.trans hk711 (by simp)

/-! ### the law -/
theorem Ix_string {s : Sl} {ss : List ByteArray} {w : World} (h : RdC s.p s.len (ss.map Value.string) w) {k : Nat} {x : ByteArray} (hx : ss[k]? = some x) {K : ByteArray → Pr} (hk : K x w) : Ix s (k : Int) 1 (fun a => LdS a K) w := by
  obtain ⟨a, ha, hc⟩ := h.2 k (.string x) (by simp [hx])
  have h1 := h.1
  rw [List.length_map] at h1
  have h2 := (List.getElem?_eq_some_iff.1 hx).1
  unfold Ix
  rw [ha]
  refine ⟨by omega, by omega, x, ?_, hk⟩
  rw [Int.toNat_natCast, Nat.mul_one]
  exact hc

def strC (L : List Lt) : List Value := L.map fun l => .string ⟨l.bs.toArray⟩
theorem strC_length (L : List Lt) : (strC L).length = L.length := by simp [strC]

/-- The first loop: so many letters are sent, and those of the right size are wanted. -/
def SendI (w : World) (p : Nat) (n : Nat) (m : Nat) (st : Bool × Sl × Int × Unit) (w' : World) : Prop :=
  ∃ (k : Nat) (want : Sl) (L : List Lt) (fp : List Nat), st = (false, want, (k : Int), ()) ∧ m = n - k ∧ k ≤ n ∧ L.length ≤ 128 ∧ (∀ l ∈ L, l.t = w64 (l.f + 1)) ∧
    SlC w' want 1 (strC L) ∧ NetAt w' p L fp ∧ (∀ x ∈ blk want, x ∉ fp) ∧ Keeps [] w w' ∧ (∀ x ∈ fp, w.heap.size ≤ x) ∧ ∀ x ∈ blk want, w.heap.size ≤ x

/-- The second: what was taken was wanted. -/
def TakeI (w : World) (p : Nat) (want : Sl) (L : List Lt) (m : Nat) (st : Bool × Int × Unit) (w' : World) : Prop :=
  ∃ (k : Nat) (fp : List Nat), st = (false, (k : Int), ()) ∧ m = L.length - k ∧ k ≤ L.length ∧
    SlC w' want 1 (strC L) ∧ NetAt w' p (L.drop k) fp ∧ (∀ x ∈ blk want, x ∉ fp) ∧ Keeps [] w w' ∧ (∀ x ∈ fp, w.heap.size ≤ x)

theorem NetOrder_ok {w : World} {s : Sl} {ss : List ByteArray} (h : RdC s.p s.len (ss.map Value.string) w) :
    Cl Try.prog 3 [.slice s.p s.len s.cap] false [.sc .b] (fun r w' => r.1 = true ∧ Keeps [] w w') w := by
  apply sumpterlaw07_NetOrder_call
  unfold sumpterlaw07_NetOrder
  refine Cl.mono live_ok ?_
  rintro r1 w1 ⟨h1, hk1⟩
  refine Cl.mono net_New_ok ?_
  rintro r2 w2 ⟨h2, hn2, hk2⟩
  rw [h1, h2]
  have hk02 : Keeps [] w w2 := hk1.trans hk2 (by simp)
  have hz1 := hk1.size
  have hz2 := hk02.size
  generalize hp : w1.heap.size = p at *
  simp only [Jp, Option.isNone_some, sx, Bool.not_false]
  by_cases hlong : 200 < s.len
  · rw [decide_eq_true (by omega)]
    simp only [sx]
    exact ⟨trivial, hk02⟩
  rw [decide_eq_false (by omega)]
  simp only [sx]
  have hsl := h.1
  rw [List.length_map] at hsl
  refine ⟨SendI w p s.len, ⟨s.len, 0, ⟨none, 0, 0⟩, [], [p], rfl, by simp, by omega, by simp, by simp, SlC.nil _ _, hn2, by simp [blk], hk02, by simp; omega, by simp [blk]⟩, ?_⟩
  rintro _ _ w3 ⟨k, want, L, fp, rfl, rfl, hk, hL, ht, hwant, hn3, hd3, hk3, hfp3, hfw3⟩
  have hwl := hwant.len
  rw [strC_length, Nat.mul_one] at hwl
  dsimp only
  by_cases hlt : k < s.len
  · -- one more is sent
    rw [decide_eq_true (by omega)]
    simp only [sx]
    obtain ⟨x, hx⟩ : ∃ x, ss[k]? = some x := ⟨_, List.getElem?_eq_getElem (by omega)⟩
    refine Ix_string (rdc_keeps h hk3 (by simp)) hx ?_
    refine StoB_of ?_
    intro r w4 hr4 hk4 hb4 hl4
    have hw : w64 ((k : Int) + 1) = ((k + 1 : Nat) : Int) := by
      simp only [w64]; rw [IntWalk.i64_in _ (by omega)]; simp
    rw [hw]
    have hxs : x.data.toList.length = x.size := by rw [Array.length_toList]; rfl
    refine Cl.mono (net_Send_ok (hn3.keeps hk4 (by simp)) hr4 (k : Int) ((k + 1 : Nat) : Int)) ?_
    rintro r10 w5 ⟨g1, ⟨fp5, hn5, hf5⟩, hk5⟩
    rw [hxs] at g1 hn5
    have hz3 := hk3.size
    have hz4 := hk4.size
    have hk45 : Keeps fp w3 w5 := (hk4.mono (by simp)).trans hk5 (fun x hx => .inl hx)
    have hk35 : Keeps [] w w5 := hk3.trans hk45 (fun x hx => .inr (hfp3 x hx))
    have hwant5 := hwant.keeps hk45 hd3
    have hf5' : ∀ x ∈ fp5, x ∈ fp ∨ w3.heap.size ≤ x := fun x hx => (hf5 x hx).imp id (fun h => by omega)
    have hf5w : ∀ x ∈ fp5, w.heap.size ≤ x := fun x hx => (hf5' x hx).elim (hfp3 x) (fun h => by omega)
    have hd5 : ∀ x ∈ blk want, x ∉ fp5 := fun x hx hx5 => (hf5' x hx5).elim (hd3 x hx) (fun h => by have := hwant.lt x hx; omega)
    by_cases hxl : 4103 < x.size
    · have hc : sendC (k : Int) ((k + 1 : Nat) : Int) x.size L.length = 2 := by simp [sendC, hxl]; omega
      rw [hc] at g1 hn5
      rw [decide_eq_true (by omega)]
      simp only [sx, g1, bne_self_eq_false]
      exact ⟨s.len - (k + 1), by omega, k + 1, want, L, fp5, rfl, rfl, by omega, hL, ht, hwant5, hn5, hd5, hk35, hf5w, hfw3⟩
    rw [decide_eq_false (by omega)]
    simp only [sx]
    by_cases hfull : 128 ≤ L.length
    · have hc : sendC (k : Int) ((k + 1 : Nat) : Int) x.size L.length = 62 := by simp [sendC, hxl, hfull]; omega
      rw [hc] at g1 hn5
      rw [decide_eq_true (by omega)]
      simp only [sx, g1, bne_self_eq_false]
      exact ⟨s.len - (k + 1), by omega, k + 1, want, L, fp5, rfl, rfl, by omega, hL, ht, hwant5, hn5, hd5, hk35, hf5w, hfw3⟩
    have hc : sendC (k : Int) ((k + 1 : Nat) : Int) x.size L.length = 0 := by simp [sendC, hxl, hfull]; omega
    rw [hc] at g1 hn5
    rw [if_pos rfl] at hn5
    rw [decide_eq_false (by omega)]
    simp only [sx]
    have hk6 : Keeps [] w5 (w5.alloc (.cells #[.string x] 9)) := (Keeps.refl [] w5).alloc _
    refine App_of (size := 1) (bytes := 16) (new := [.string x]) (hwant5.keeps hk6 (by simp)) ?_ rfl (by simp [Value.oneCell']) (by kernel_rfl) (by omega) (by omega) ?_
    · refine ⟨rfl, fun j v hj => ⟨_, rfl, ?_⟩⟩
      rw [add_of, cell_of (hp_alloc_new w5 _), Nat.zero_add]
      simpa using hj
    intro r14 w7 hs7 hl7 hk7 hb7
    simp only [sx, g1, bne_self_eq_false]
    have hz5 := hk35.size
    have hz6 := hk6.size
    have hk57 : Keeps (blk want) w5 w7 := (hk6.mono (by simp)).trans hk7 (fun x hx => .inl hx)
    have hd7 : ∀ x ∈ blk r14, x ∈ blk want ∨ w5.heap.size ≤ x := fun x hx => by
      rcases hb7 with hb | hb <;> rw [hb] at hx
      · exact .inl hx
      · simp at hx; exact .inr (by omega)
    refine ⟨s.len - (k + 1), by omega, k + 1, r14, L ++ [⟨(k : Int), ((k + 1 : Nat) : Int), x.data.toList⟩], fp5, rfl, rfl, by omega, by simp; omega, ?_, ?_, hn5.keeps hk57 (fun x hx hx' => hd5 x hx' hx), ?_, hk35.trans hk57 (fun x hx => .inr (hfw3 x hx)), hf5w, ?_⟩
    · intro l hl
      rw [List.mem_append] at hl
      rcases hl with hl | hl
      · exact ht l hl
      · simp at hl
        subst hl
        exact hw.symm
    · rw [strC, List.map_append]
      simp only [List.map_cons, List.map_nil, mk_data]
      exact hs7
    · intro x hx hx5
      rcases hd7 x hx with h' | h'
      · exact hd5 x h' hx5
      · have := hn5.lt x hx5; omega
    · intro x hx
      rcases hd7 x hx with h' | h'
      · exact hfw3 x h'
      · omega
  -- the second loop
  rw [decide_eq_false (by omega)]
  simp only [sx]
  refine ⟨TakeI w p want L, ⟨L.length, 0, fp, rfl, by simp, by omega, hwant, by simpa using hn3, hd3, hk3, hfp3⟩, ?_⟩
  rintro _ _ w4 ⟨j, fp4, rfl, rfl, hj, hwant4, hn4, hd4, hk4, hfp4⟩
  dsimp only
  by_cases hjl : j < L.length
  · rw [decide_eq_true (by omega)]
    simp only [sx]
    obtain ⟨l, hl⟩ : ∃ l, L[j]? = some l := ⟨_, List.getElem?_eq_getElem hjl⟩
    have hrd := hwant4.rdc
    rw [Nat.mul_one] at hrd
    refine Ix_string (ss := L.map fun l => ⟨l.bs.toArray⟩) (by simpa [strC, Function.comp_def] using hrd) (k := j) (x := ⟨l.bs.toArray⟩) (by simp [hl]) ?_
    refine Cl.mono (net_Take_yes (k := 0) (l := l) hn4 (by simp; omega) (by simpa using hl)) ?_
    rintro r19 w5 ⟨t1, t2, t3, t4, hk5, fp5, hn5, hf5, hd5⟩
    rw [List.eraseIdx_zero, List.tail_drop] at hn5
    have hwj : w64 ((j : Int) + 1) = ((j + 1 : Nat) : Int) := by
      simp only [w64]; rw [IntWalk.i64_in _ (by omega)]; simp
    simp (disch := ((try simp only [sx]); first | done | omega)) only [sx, sxc, sxl, Nat.zero_add, Nat.reduceAdd, Nat.reduceLT, true_and, Jp, t3, bne_self_eq_false]
    have hka : ∀ A B, Keeps [] w5 (setObjW (w5.alloc A) w5.heap.size B) := fun A B => ((Keeps.refl [] w5).alloc _).setObjW (.inr (Nat.le_refl _)) _
    refine BtoS_of (t4.keeps (hka _ _) (by simp)).rdb ?_
    have hz4 := hk4.size
    have hz5 := hk5.size
    have hlz : w5.heap.size < w5.heap.size + 1 := Nat.lt_succ_self _
    simp (disch := ((try simp only [sx]); first | done | omega)) only [sx, sxc, sxl, seq_refl, Bool.not_true, t1, t2, ht l (List.mem_of_getElem? hl), bne_self_eq_false, Nat.zero_add, Nat.reduceAdd, Nat.reduceLT, true_and]
    have hk45 : Keeps fp4 w4 w5 := hk5
    refine ⟨L.length - (j + 1), by omega, j + 1, fp5, by rw [hwj], rfl, by omega, (hwant4.keeps hk45 hd4).keeps (hka _ _) (by simp), hn5.keeps (hka _ _) (by simp), fun x hx hx5 => hd4 x hx (hf5 x hx5), (hk4.trans hk45 (fun x hx => .inr (hfp4 x hx))).trans (hka _ _) (by simp), fun x hx => hfp4 x (hf5 x hx)⟩
  -- nothing is left
  rw [decide_eq_false (by omega)]
  simp only [sx]
  have hnil : L.drop j = [] := List.drop_of_length_le (by omega)
  rw [hnil] at hn4
  refine Cl.mono (net_Take_no (i := 0) hn4 (by simp)) ?_
  rintro r27 w5 ⟨rfl, hn5, hk5⟩
  simp (disch := ((try simp only [sx]); first | done | omega)) only [sx, sxc, sxl, Nat.zero_add, Nat.reduceAdd, Nat.reduceLT, true_and, BEq.rfl]
  have hka : ∀ A B, Keeps [] w5 (setObjW (w5.alloc A) w5.heap.size B) := fun A B => ((Keeps.refl [] w5).alloc _).setObjW (.inr (Nat.le_refl _)) _
  refine Cl.mono (net_Len_ok (hn5.keeps (hka _ _) (by simp))) ?_
  rintro r29 _ ⟨g, rfl⟩
  simp only [g, List.length_nil]
  exact ⟨rfl, (hk4.trans hk5 (by simp)).trans (hka _ _) (by simp)⟩

end Go.Proofs.Ytfkhmbkeniigdaa
