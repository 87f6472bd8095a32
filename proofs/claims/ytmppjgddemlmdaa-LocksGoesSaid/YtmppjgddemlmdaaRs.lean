/- The reference's table: settle, wait, Release, Txns, Holds. Conditions: none. -/
import Derived.Test.YtmppjgddemlmdaaRg
set_option linter.unusedVariables false
set_option linter.unusedSimpArgs false
namespace Go.Proofs.Ytmppjgddemlmdaa
open Go Go.Sx

theorem setA_le (l : List Int) : (setA l).length ≤ l.length := by
  unfold setA
  have h2 : ∀ (n : Int) (l : List Int), (addA l n).length ≤ l.length + 1 := by
    intro n l
    induction l with
    | nil => exact Nat.le_refl _
    | cons x t ih2 =>
      unfold addA
      split
      · rw [List.length_cons, List.length_cons]; omega
      · split
        · exact Nat.le_succ _
        · exact Nat.le_refl _
  have h1 : ∀ (l acc : List Int), (l.foldl addA acc).length ≤ acc.length + l.length := by
    intro l
    induction l with
    | nil => intro acc; exact Nat.le_refl _
    | cons n l ih =>
      intro acc
      have := ih (addA acc n)
      have := h2 n acc
      rw [List.foldl_cons, List.length_cons]
      omega
  have := h1 l []
  simpa using this

set_option maxRecDepth 8000 in
theorem settleR_ok {w : World} {t : Nat} {H : Nat → Prop} {s : TS} (h : XAt w t H s) (ho : TOk s) {pd : Sl} {d0 : List Int} (hd : SlC w pd 1 (cU (setA d0))) (hdn : ∀ y ∈ blk pd, ¬ H y) (hd0 : d0.length + s.wait.length * 200 ≤ 40000) :
    Cl Try.prog i_sumpterref16_Table_settle [.pointer (some ⟨t, 0, none⟩), .slice pd.p pd.len pd.cap] true [.sc .sl, .sc .sl] (fun r w' => ∃ H', XAt w' t H' (settleA s.wait.length s [] d0).1 ∧ Fr H H' w ∧ KeepsP H w w' ∧
      SlC w' r.1 1 (cU (setA (settleA s.wait.length s [] d0).2.1)) ∧ SlC w' r.2.1 1 (cU (setA (settleA s.wait.length s [] d0).2.2)) ∧ (∀ y ∈ blk r.1, w.heap.size ≤ y ∧ ¬ H' y) ∧ (∀ y ∈ blk r.2.1, (y ∈ blk pd ∨ w.heap.size ≤ y) ∧ ¬ H' y)) w := by
  refine Cl_gen fun R hR => ?_
  apply sumpterref16_Table_settle_call
  unfold sumpterref16_Table_settle
  have hfew0 := ho.few
  obtain ⟨D, hD⟩ : ∃ D, D = settleA s.wait.length s [] d0 := ⟨_, rfl⟩
  rw [← hD] at hR
  refine ⟨fun n st w' => ∃ (s' : TS) (H' : Nat → Prop) (ds gs q1 q2 : Sl) (g d : List Int), st = (ds, q1, q2, gs, ()) ∧ s'.wait.length ≤ n ∧ settleA n s' g d = D ∧ XAt w' t H' s' ∧ TOk s' ∧ Fr H H' w ∧ KeepsP H w w' ∧
      SlC w' ds 1 (cU (setA d)) ∧ SlC w' gs 1 (cU (setA g)) ∧ (∀ y ∈ blk ds, (y ∈ blk pd ∨ w.heap.size ≤ y) ∧ ¬ H' y) ∧ (∀ y ∈ blk gs, w.heap.size ≤ y ∧ ¬ H' y) ∧ d.length + s'.wait.length * 200 ≤ 40000 ∧ g.length + s'.wait.length ≤ 200,
    ⟨_, s, H, pd, ⟨none, 0, 0⟩, ⟨none, 0, 0⟩, ⟨none, 0, 0⟩, [], d0, rfl, Nat.le_refl _, hD.symm, h, ho, Fr.refl _ _, KeepsP.refl _ _, hd, SlC.nil _ 1, fun y hy => ⟨.inl hy, hdn y hy⟩, by simp [blk], hd0, by simp; omega⟩, ?_⟩
  rintro n _ w2 ⟨s', H', ds, gs, q1, q2, g, d, rfl, hn, hset, h2, ho2, f2, kp2, hds, hgs, hnd, hng, hb1, hb2⟩
  dsimp only
  have hfew := ho2.few
  have s02 := kp2.size
  refine Cl.mono (nextR_ok h2 ho2) ?_
  rintro ⟨rx, rb, _⟩ w3 ⟨hr, k3⟩
  have s23 := k3.size
  cases hfind : s'.wait.find? (freeA s') with
  | none =>
    rw [hfind] at hr
    dsimp only at hr
    subst hr
    refine bx5 fun b w4 hb nb k4 => ?_
    simp only [Bool.not_false, Br_true]
    have hDe : D = (s', g, d) := by
      rw [← hset]
      cases n with
      | zero => rfl
      | succ n => rw [settleA, hfind]
    have k24 := kp0 k3 k4
    refine hR (gs, ds, ()) _ ?_
    rw [hDe]
    exact ⟨H', h2.keeps0 k24, f2, kp2.step k24 (by simp), hgs.keeps k24 (by simp), hds.keeps k24 (by simp), hng, hnd⟩
  | some x =>
    rw [hfind] at hr
    obtain ⟨hrx, hrb⟩ := hr
    dsimp only at hrx hrb
    subst hrx hrb
    dsimp only
    have hxm : x ∈ s'.wait := List.mem_of_find?_eq_some hfind
    have hwl := pick_wait hxm
    have hwp : 0 < s'.wait.length := List.length_pos_of_mem hxm
    obtain ⟨k, rfl⟩ : ∃ k, n = k + 1 := ⟨n - 1, by omega⟩
    rw [settleA, hfind] at hset
    dsimp only at hset
    refine bx5 fun b w4 hb nb k4 => ?_
    simp only [Bool.not_true, Br_false]
    have k24 := kp0 k3 k4
    have s34 := k4.size
    obtain ⟨sh, sw, h2⟩ := h2
    have g4 := h2.keeps0 k24
    have kd : Keeps [] w4 w4.drew := (Keeps.refl _ _).drew
    have g4' := g4.keeps0 kd
    simp only [sxn, g4.hd, hb, sxl, Nat.reduceAdd]
    refine Cl.mono (without_ok g4'.w x.n (by omega)) ?_
    rintro ⟨r5, _⟩ w5 ⟨h5, hb5, k5⟩
    dsimp only at h5 hb5 ⊢
    have g5 := g4'.keeps0 k5
    have hb5b := k5.at (show w4.drew.heap[b]? = _ from hb) (by simp)
    have s45 : w4.heap.size ≤ w5.heap.size := k5.size
    have hbt : b ∉ [t] := by simp; rintro rfl; have h1 := hp_lt h2.hd; have h3 := k3.size; omega
    refine set_box g5.hd 1 _ rfl (by simp) fun w6 hd6 k6 => ?_
    obtain ⟨H6, g6, f6, kp6⟩ := g4'.setW (k5.mono (by simp)) h5 (fun z hz => .inr (hb5 z hz)) k6 hd6
    have hb6 := k6.at hb5b hbt
    have s56 := k6.size
    have tH : H' t := (h2.own t).2 (.inl rfl)
    have notT : ∀ z, ¬ H' z → z ∉ [t] := fun z hz => by simp; rintro rfl; exact hz tH
    have k25 := kp0 (kp0 k24 kd) k5
    have hds6 : SlC w6 ds 1 (cU (setA d)) := (hds.keeps k25 (by simp)).keeps k6 (fun z hz => notT z (hnd z hz).2)
    have hgs6 : SlC w6 gs 1 (cU (setA g)) := (hgs.keeps k25 (by simp)).keeps k6 (fun z hz => notT z (hng z hz).2)
    have nH6 : ∀ z, z < w2.heap.size → ¬ H' z → ¬ H6 z := fun z hl hz hx => (f6 z hx).elim hz (fun h => by have h : w4.heap.size ≤ z := h; omega)
    simp only [sxn, hb6, sxl, Nat.reduceAdd]
    have hsg := setA_le g
    have hsd := setA_le d
    refine Cl.mono (Add_ok hgs6 x.n (by omega)) ?_
    rintro ⟨r7, _⟩ w7 ⟨h7, hb7, k7⟩
    dsimp only at h7 hb7 ⊢
    have g7 : XAt w7 t H6 ⟨s'.held, s'.wait.filter (fun y => !(y.n == x.n))⟩ := XAt.keeps0 ⟨_, _, g6⟩ k7
    have hb7b := k7.at hb6 (by simp)
    have hds7 := hds6.keeps k7 (by simp)
    have s67 := k7.size
    simp only [sxn, hb7b, sxl, Nat.reduceAdd]
    refine Cl.mono (grantR_ok g7 (pick_ok ho2 hxm)) ?_
    rintro ⟨r8, _⟩ w8 ⟨H8, h8, f8, k8, hr8, hn8⟩
    dsimp only at hr8 hn8 ⊢
    have s78 := k8.size
    have hds8 := hds7.keepsP k8 (fun z hz => nH6 z (hds.lt z hz) (hnd z hz).2)
    have hr7n : ∀ z ∈ blk r7, ¬ H6 z := fun z hz => by
      rcases hb7 z hz with h' | h'
      · exact nH6 z (hgs.lt z h') (hng z h').2
      · intro hx
        have := g6.bl z hx
        omega
    have hr7 := h7.keepsP k8 hr7n
    rw [← setA_add] at hr7
    have hkl : (pickA x s').1.length ≤ 192 := by
      have : (pickA x s').1.length ≤ (s'.wait.filter (fun y => !(y.n == x.n))).length := killed_len x (s'.wait.filter (fun y => !(y.n == x.n)))
      have h1 := filter_short hxm
      omega
    have F8 : ∀ z, z < w2.heap.size → ¬ H' z → ¬ H8 z := fun z hl hz hx => by
      rcases f8 z hx with h' | h'
      · exact nH6 z hl hz h'
      · omega
    have hdn8 : ∀ z ∈ blk ds, ¬ H8 z := fun z hz => F8 z (hds.lt z hz) (hnd z hz).2
    have hr8' : SlC w8 r8 1 (cU (pickA x s').1) := hr8
    generalize hE : (pickA x s').1 = E at hr8' hkl
    have hl8 := cU_slen hr8'
    refine ⟨fun n st w' => ∃ (i : Nat) (r : Sl), st = (r, (i : Int), ()) ∧ n = E.length - i ∧ i ≤ E.length ∧ SlC w' r 1 (cU (setA (d ++ E.take i))) ∧ (∀ z ∈ blk r, z ∈ blk ds ∨ w8.heap.size ≤ z) ∧ Keeps [] w8 w', ⟨_, 0, ds, rfl, rfl, by omega, by rw [List.take_zero, List.append_nil]; exact hds8, fun z hz => .inl hz, Keeps.refl _ _⟩, ?_⟩
    rintro n9 _ w9 ⟨i, r9, rfl, rfl, hi, h9, hb9, k9⟩
    dsimp only
    have hse := setA_le (d ++ E.take i)
    rw [List.length_append, List.length_take] at hse
    by_cases hlt : i < E.length
    · rw [decide_eq_true (by omega)]
      simp only [Br_true]
      obtain ⟨m, hm⟩ : ∃ m, E[i]? = some m := ⟨_, List.getElem?_eq_getElem hlt⟩
      refine Ix_cu (hr8'.keeps k9 (by simp)) hm ?_
      refine Cl.mono (Add_ok h9 m (by omega)) ?_
      rintro ⟨r10, _⟩ w10 ⟨h10, hb10, k10⟩
      dsimp only at h10 hb10 ⊢
      refine ⟨E.length - (i + 1), by omega, i + 1, r10, by rw [w64p (by omega)], rfl, by omega, ?_, fun z hz => ?_, kp0 k9 k10⟩
      · rw [List.take_add_one, hm, Option.toList_some, ← List.append_assoc, setA_add]
        exact h10
      · rcases hb10 z hz with h' | h'
        · exact hb9 z h'
        · have := k9.size; exact .inr (by omega)
    · rw [decide_eq_false (by omega)]
      simp only [Br_false]
      rw [List.take_of_length_le (by omega)] at h9
      rw [hE] at hset
      refine ⟨k, by omega, (pickA x s').2, H8, r9, r7, q1, q2, g ++ [x.n], d ++ E, rfl, by omega, hset, h8.keeps0 k9, ho2.pick hxm, ?_, ?_, h9, hr7.keeps k9 (by simp), ?_, ?_, ?_, ?_⟩
      · intro z hz
        rcases f8 z hz with h' | h'
        · rcases f6 z h' with h'' | h''
          · rcases f2 z h'' with h3 | h3
            · exact .inl h3
            · exact .inr (by omega)
          · have h'' : w4.heap.size ≤ z := h''
            exact .inr (by omega)
        · exact .inr (by omega)
      · have a1 : KeepsP H w w4.drew := kp2.step (kp0 k24 kd) (by simp)
        have a2 : KeepsP H w w6 := a1.trans kp6 (fun z hz => f2 z hz)
        have a3 : KeepsP H w w7 := a2.step k7 (by simp)
        have a4 : KeepsP H w w8 := a3.trans k8 (fun z hz => by
          rcases f6 z hz with h' | h'
          · exact f2 z h'
          · have h' : w4.heap.size ≤ z := h'
            exact .inr (by omega))
        exact a4.step k9 (by simp)
      · intro z hz
        rcases hb9 z hz with h' | h'
        · exact ⟨(hnd z h').1, hdn8 z h'⟩
        · exact ⟨.inr (by omega), fun hx => by have := h8.bl z hx; omega⟩
      · intro z hz
        refine ⟨?_, fun hx => ?_⟩
        · rcases hb7 z hz with h' | h'
          · exact (hng z h').1
          · omega
        · rcases f8 z hx with h' | h'
          · exact hr7n z hz h'
          · have := h7.lt z hz; omega
      · rw [List.length_append]; omega
      · rw [List.length_append, List.length_singleton]; omega

/-- What a call of the reference leaves. -/
def LeftR (w w' : World) (t : Nat) (H : Nat → Prop) (s' : TS) (a b : Sl) (g d : List Int) : Prop := ∃ H', XAt w' t H' s' ∧ Fr H H' w ∧ KeepsP H w w' ∧ SlC w' a 1 (cU g) ∧ SlC w' b 1 (cU d) ∧
  (∀ y ∈ blk a, w.heap.size ≤ y) ∧ (∀ y ∈ blk b, w.heap.size ≤ y)
theorem LeftR.none {w w' : World} {t : Nat} {H : Nat → Prop} {s : TS} (h : XAt w t H s) (k : Keeps [] w w') : LeftR w w' t H s ⟨none, 0, 0⟩ ⟨none, 0, 0⟩ [] [] :=
  ⟨H, h.keeps0 k, Fr.refl _ _, k.toP (by simp), SlC.nil _ 1, SlC.nil _ 1, by simp [blk], by simp [blk]⟩
theorem LeftR.pre {w0 w w' : World} {t : Nat} {H : Nat → Prop} {s : TS} {a b : Sl} {g d : List Int} (k : Keeps [] w0 w) (h : LeftR w w' t H s a b g d) : LeftR w0 w' t H s a b g d := by
  obtain ⟨H', h1, h2, h3, h4, h5, h6, h7⟩ := h
  have := k.size
  exact ⟨H', h1, fun x hx => (h2 x hx).elim .inl (fun h => .inr (by omega)), (k.toP (F := H) (by simp)).same h3, h4, h5, fun y hy => by have := h6 y hy; omega, fun y hy => by have := h7 y hy; omega⟩

theorem ReleaseR_ok {w : World} {t : Nat} {H : Nat → Prop} {s : TS} (h : XAt w t H s) (ho : TOk s) (n : Int) :
    Cl Try.prog i_sumpterref16_Table_Release [.pointer (some ⟨t, 0, none⟩), .int .u64 n] true [.sc .sl, .sc .sl] (fun r w' => LeftR w w' t H (relA n s).2 r.1 r.2.1 (relA n s).1.1 (relA n s).1.2) w := by
  unfold relA
  dsimp only
  obtain ⟨Q, hQ⟩ : ∃ Q, Q = settleA (dropA n s).wait.length (dropA n s) [] [] := ⟨_, rfl⟩
  rw [← hQ]
  refine Cl_gen fun R hR => ?_
  apply sumpterref16_Table_Release_call
  unfold sumpterref16_Table_Release
  simp only [Nn, add_of, Nat.reduceAdd]
  refine dropR_w h ho n ?_
  rintro w1 ⟨H1, h1, f1, k1⟩
  have hfew := (ho.drop n).few
  have hb0 : ([] : List Int).length + (dropA n s).wait.length * 200 ≤ 40000 := by rw [List.length_nil]; omega
  have hnil : SlC w1 ⟨none, 0, 0⟩ 1 (cU (setA [])) := SlC.nil _ 1
  have hset := settleR_ok h1 (ho.drop n) hnil (fun y hy => by cases hy) hb0
  rw [← hQ] at hset
  refine Cl.mono hset ?_
  rintro ⟨a, b, _⟩ w2 ⟨H2, h2, f2, k2, ha, hb, na, nb⟩
  dsimp only at ha hb na nb ⊢
  have s1 := k1.size
  refine hR (a, b, ()) _ ⟨H2, h2, f1.trans f2 s1, k1.trans k2 (fun x hx => f1 x hx), ha, hb, fun y hy => by have := (na y hy).1; omega, fun y hy => ?_⟩
  rcases (nb y hy).1 with h' | h'
  · cases h'
  · omega
end Go.Proofs.Ytmppjgddemlmdaa
