/- The lock table: settle. Conditions: none. -/
import Derived.Test.YtmppjgddemlmdaaTbg
set_option linter.unusedVariables false
set_option linter.unusedSimpArgs false
namespace Go.Proofs.Ytmppjgddemlmdaa
open Go Go.Sx

/-! ### sets of numbers -/
def addA : List Int → Int → List Int
  | [], n => [n]
  | x :: t, n => if x < n then x :: addA t n else if x = n then x :: t else n :: x :: t
def setA (l : List Int) : List Int := l.foldl addA []
theorem addA_mem {x n : Int} : ∀ {l : List Int}, x ∈ addA l n ↔ x = n ∨ x ∈ l
  | [] => by simp [addA]
  | y :: t => by
    unfold addA
    split
    · simp only [List.mem_cons, addA_mem (l := t)]
      constructor <;> (rintro (h | h | h) <;> simp [h])
    · split
      · rename_i h
        subst h
        simp
      · simp
theorem addA_rising {n : Int} : ∀ {l : List Int}, l.Pairwise (· < ·) → (addA l n).Pairwise (· < ·)
  | [], _ => by simp [addA]
  | y :: t, h => by
    have h1 := List.pairwise_cons.1 h
    unfold addA
    split
    · rename_i hy
      refine List.pairwise_cons.2 ⟨fun z hz => ?_, addA_rising h1.2⟩
      rcases addA_mem.1 hz with rfl | hz
      · exact hy
      · exact h1.1 z hz
    · split
      · exact h
      · rename_i hy1 hy2
        refine List.pairwise_cons.2 ⟨fun z hz => ?_, h⟩
        rcases List.mem_cons.1 hz with rfl | hz
        · omega
        · have := h1.1 z hz; omega
theorem foldA_rising : ∀ {l acc : List Int}, acc.Pairwise (· < ·) → (l.foldl addA acc).Pairwise (· < ·)
  | [], _, h => h
  | x :: l, _, h => foldA_rising (l := l) (addA_rising h)
theorem foldA_mem {x : Int} : ∀ {l acc : List Int}, x ∈ l.foldl addA acc ↔ x ∈ acc ∨ x ∈ l
  | [], _ => by simp
  | y :: l, acc => by
    rw [List.foldl_cons, foldA_mem (l := l), addA_mem, List.mem_cons]
    constructor
    · rintro ((h | h) | h) <;> simp [h]
    · rintro (h | h | h) <;> simp [h]
theorem setA_rising (l : List Int) : (setA l).Pairwise (· < ·) := foldA_rising (by simp)
theorem setA_mem {x : Int} {l : List Int} : x ∈ setA l ↔ x ∈ l := by unfold setA; rw [foldA_mem]; simp
theorem setA_eq {l r : List Int} (h : r.Pairwise (· < ·)) (hm : ∀ x, x ∈ r ↔ x ∈ l) : r = setA l := rising_unique h (setA_rising l) (fun x => (hm x).trans setA_mem.symm)
theorem setA_self {l : List Int} (h : l.Pairwise (· < ·)) : setA l = l := (setA_eq h (fun _ => Iff.rfl)).symm
theorem setA_add (l : List Int) (n : Int) : setA (l ++ [n]) = addA (setA l) n := by unfold setA; rw [List.foldl_append]; rfl

/-! ### settle -/
def freeA (s : TS) (y : Ak) : Bool := !(s.held.any (fun h => wayA y h))
def pickA (x : Ak) (s : TS) : List Int × TS := grantA x ⟨s.held, s.wait.filter (fun y => !(y.n == x.n))⟩
def settleA : Nat → TS → List Int → List Int → TS × List Int × List Int
  | 0, s, g, d => (s, g, d)
  | k + 1, s, g, d => match s.wait.find? (freeA s) with
    | none => (s, g, d)
    | some x => settleA k (pickA x s).2 (g ++ [x.n]) (d ++ (pickA x s).1)
theorem filter_short {l : List Ak} {x : Ak} (h : x ∈ l) : (l.filter (fun y => !(y.n == x.n))).length < l.length := by
  have h1 := List.length_filter_le (fun y : Ak => !(y.n == x.n)) l
  rcases Nat.lt_or_eq_of_le h1 with h2 | h2
  · exact h2
  · have := List.length_filter_eq_length_iff.1 h2 x h
    simp at this
theorem pick_ok {s : TS} (ho : TOk s) {x : Ak} (hx : x ∈ s.wait) : TOk ⟨s.held ++ [x], s.wait.filter (fun y => !(y.n == x.n))⟩ := by
  refine ⟨ho.wt.filter _, ?_⟩
  have h1 := filter_short hx
  have := ho.few
  simp only [List.length_append, List.length_singleton]
  omega
theorem dropAll_wait_le (d : List Int) : ∀ (s : TS), (dropAll d s).wait.length ≤ s.wait.length := by
  unfold dropAll
  induction d with
  | nil => intro s; exact Nat.le_refl _
  | cons n d ih =>
    intro s
    refine Nat.le_trans (ih _) ?_
    exact List.length_filter_le _ _
theorem pick_wait {s : TS} {x : Ak} (hx : x ∈ s.wait) : (pickA x s).2.wait.length < s.wait.length :=
  Nat.lt_of_le_of_lt (dropAll_wait_le _ _) (filter_short hx)
theorem TOk.pick {s : TS} (ho : TOk s) {x : Ak} (hx : x ∈ s.wait) : TOk (pickA x s).2 := TOk.dropAll (pick_ok ho hx)
theorem TOk.settle : ∀ {k : Nat} {s : TS} {g d : List Int}, TOk s → TOk (settleA k s g d).1
  | 0, s, g, d, h => h
  | k + 1, s, g, d, h => by
    unfold settleA
    split
    · exact h
    · rename_i x hx
      exact TOk.settle (h.pick (List.mem_of_find?_eq_some hx))
theorem erase_filter {l : List Ak} (hs : l.Pairwise (fun a b => a.n < b.n)) {i : Nat} {x : Ak} (hx : l[i]? = some x) : l.eraseIdx i = l.filter (fun y => !(y.n == x.n)) := by
  induction l generalizing i with
  | nil => simp at hx
  | cons y t ih =>
    have h1 := List.pairwise_cons.1 hs
    cases i with
    | zero =>
      simp only [List.getElem?_cons_zero, Option.some.injEq] at hx
      subst hx
      rw [List.eraseIdx_cons_zero, List.filter_cons_of_neg (by simp), List.filter_eq_self.2]
      intro z hz
      have := h1.1 z hz
      have : ¬ z.n = y.n := by omega
      simp [this]
    | succ i =>
      rw [List.getElem?_cons_succ] at hx
      have hm := h1.1 x (List.mem_of_getElem? hx)
      have hne : ¬ y.n = x.n := by omega
      rw [List.eraseIdx_cons_succ, List.filter_cons_of_pos (by simp [hne]), ih h1.2 hx]

theorem settle1_ok {w : World} {e t : Nat} {H : Nat → Prop} {s : TS} {sh sw : Sl} (he : w.heap[e]? = some (.cells #[.pointer (some ⟨t, 0, none⟩)] 24 (0, 0))) (h : TAtX w t H s sh sw) (ho : TOk s) :
    IsP (.func (.func 51) #[] #[.pointer (some ⟨e, 0, none⟩)]) (freeA s) [] w := by
  intro w1 k1 y
  have he := k1.at he (by simp)
  have g1 := h.keeps0 k1
  have hfew := ho.few
  refine CallV_fn (by kernel_rfl) ?_
  refine Cl_gen fun R hR => ?_
  apply locks_Table_settle_1_call
  unfold locks_Table_settle_1
  refine New_bx fun a w2 ha na k2 => ?_
  have he := k2.at he (by simp)
  have g2 := g1.keeps0 k2
  simp only [sxn, he, g2.hd, ha, sxl, Nat.reduceAdd]
  refine Cl.mono (against_ok y _) ?_
  rintro ⟨f, _⟩ w3 ⟨c, nc, hf, k3⟩
  dsimp only at hf ⊢
  have he := k3.at (w := w2.drew) he (by simp)
  have g3 := (g1.keeps0 k2.drew).keeps0 k3
  simp only [sxn, he, g3.hd, sxl, Nat.reduceAdd]
  refine ⟨by trivial, by trivial, ?_⟩
  refine Cl.mono (ContainsFunc_ok g3.h (hf [] (by simp)) (by omega)) ?_
  rintro ⟨q, _⟩ w4 ⟨e4, k4⟩
  dsimp only at e4
  subst e4
  exact hR _ _ ⟨rfl, kp0 (kp0 k2.drew k3) k4⟩

theorem find_of {l : List Ak} {p : Ak → Bool} {i : Nat} {x : Ak} (hx : l[i]? = some x) (hp : p x = true) (hn : ∀ y ∈ l.take i, p y = false) : l.find? p = some x := by
  induction l generalizing i with
  | nil => simp at hx
  | cons y t ih =>
    cases i with
    | zero =>
      simp only [List.getElem?_cons_zero, Option.some.injEq] at hx
      subst hx
      exact List.find?_cons_of_pos hp
    | succ i =>
      rw [List.find?_cons_of_neg (by rw [hn y (by simp)]; simp)]
      exact ih hx (fun z hz => hn z (by simp [hz]))

theorem settle_ok {w : World} {t : Nat} {H : Nat → Prop} {s : TS} (h : TAt w t H s) (ho : TOk s) {pd : Sl} {d0 : List Int} (hd : SlC w pd 1 (cU d0)) (hdn : ∀ y ∈ blk pd, ¬ H y) (hd0 : d0.length + s.wait.length * 200 ≤ 40000) :
    Cl Try.prog i_locks_Table_settle [.pointer (some ⟨t, 0, none⟩), .slice pd.p pd.len pd.cap] true [.sc .sl, .sc .sl] (fun r w' => ∃ H', TAt w' t H' (settleA s.wait.length s [] d0).1 ∧ Fr H H' w ∧ KeepsP (fun x => H x ∨ x ∈ blk pd) w w' ∧
      SlC w' r.1 1 (cU (setA (settleA s.wait.length s [] d0).2.1)) ∧ SlC w' r.2.1 1 (cU (setA (settleA s.wait.length s [] d0).2.2)) ∧ (∀ y ∈ blk r.1, w.heap.size ≤ y ∧ ¬ H' y) ∧ (∀ y ∈ blk r.2.1, (y ∈ blk pd ∨ w.heap.size ≤ y) ∧ ¬ H' y) ∧ (∀ y ∈ blk r.1, y ∉ blk r.2.1)) w := by
  refine Cl_gen fun R hR => ?_
  apply locks_Table_settle_call
  unfold locks_Table_settle
  have hfew0 := ho.few
  refine New_bx fun e w1 he ne k1 => ?_
  have heH : ¬ H e := fun hx => by have := h.bl e hx; omega
  have hepd : e ∉ blk pd := fun hx => by have := hd.lt e hx; omega
  have le := hp_lt he
  obtain ⟨D, hD⟩ : ∃ D, D = settleA s.wait.length s [] d0 := ⟨_, rfl⟩
  rw [← hD] at hR
  refine ⟨fun n st w' => ∃ (s' : TS) (H' : Nat → Prop) (ds gs q1 q2 : Sl) (g d : List Int), st = (ds, q1, q2, gs, ()) ∧ s'.wait.length ≤ n ∧ settleA n s' g d = D ∧ TAt w' t H' s' ∧ TOk s' ∧ Fr H H' w1 ∧ KeepsP (fun x => H x ∨ x ∈ blk pd) w1 w' ∧
      SlC w' ds 1 (cU d) ∧ SlC w' gs 1 (cU g) ∧ (∀ y ∈ blk ds, (y ∈ blk pd ∨ w1.heap.size ≤ y) ∧ ¬ H' y) ∧ (∀ y ∈ blk gs, w1.heap.size ≤ y ∧ ¬ H' y) ∧ (∀ y ∈ blk gs, y ∉ blk ds) ∧ d.length + s'.wait.length * 200 ≤ 40000 ∧ g.length + s'.wait.length ≤ 200,
    ⟨_, s, H, pd, ⟨none, 0, 0⟩, ⟨none, 0, 0⟩, ⟨none, 0, 0⟩, [], d0, rfl, Nat.le_refl _, hD.symm, h.keeps0 k1, ho, Fr.refl _ _, KeepsP.refl _ _, hd.keeps k1 (by simp), SlC.nil _ 1, fun y hy => ⟨.inl hy, hdn y hy⟩, by simp [blk], by simp [blk], hd0, by simp; omega⟩, ?_⟩
  rintro n _ w2 ⟨s', H', ds, gs, q1, q2, g, d, rfl, hn, hset, h2, ho2, f2, kp2, hds, hgs, hnd, hng, hdg, hb1, hb2⟩
  dsimp only
  have he2 : w2.heap[e]? = _ := kp2.at he (fun hx => hx.elim heH hepd)
  have heH' : ¬ H' e := fun hx => by rcases f2 e hx with h' | h'; exact heH h'; omega
  have hed : e ∉ blk ds := fun hx => by rcases (hnd e hx).1 with h' | h'; exact hepd h'; omega
  have heg : e ∉ blk gs := fun hx => by have := (hng e hx).1; omega
  obtain ⟨sh, sw, h2⟩ := h2
  have hfew := ho2.few
  have hlw := as_len h2.w
  simp only [sxn, he2, h2.hd, sxl, Nat.reduceAdd]
  refine Cl.mono (IndexFunc_ok h2.w (settle1_ok he2 h2 ho2) (by omega)) ?_
  rintro ⟨r, _⟩ w3 ⟨hr, k3⟩
  dsimp only at hr ⊢
  have g3 := h2.keeps0 k3
  have he3 := k3.at he2 (by simp)
  have hds3 := hds.keeps k3 (by simp)
  have hgs3 := hgs.keeps k3 (by simp)
  have s12 := kp2.size
  have s23 := k3.size
  have s01 := k1.size
  rcases hr with ⟨i, x, rfl, hx, hfx, hpre⟩ | ⟨rfl, hnone⟩
  · -- one is free
    have hfind : s'.wait.find? (freeA s') = some x := find_of hx hfx hpre
    have hxm : x ∈ s'.wait := List.mem_of_getElem? hx
    have hwl := pick_wait hxm
    obtain ⟨k, rfl⟩ : ∃ k, n = k + 1 := ⟨n - 1, by omega⟩
    rw [settleA, hfind] at hset
    dsimp only at hset
    have hi := (List.getElem?_eq_some_iff.1 hx).1
    rw [show decide ((i : Int) < 0) = false from decide_eq_false (by omega)]
    simp only [sxn, he3, g3.hd, sxl, Nat.reduceAdd]
    refine as_ld g3.w hx ?_
    refine bx4 fun b w4 hb n4 k4 => ?_
    have g4 := g3.keeps0 k4
    have he4 := k4.at he3 (by simp)
    simp only [sxn, he4, g4.hd, sxl, Nat.reduceAdd]
    have kd : Keeps [] w4 w4.drew := (Keeps.refl _ _).drew
    have g4' := g4.keeps0 kd
    rw [w64p (by omega)]
    refine Cl.mono (Delete_ok g4'.w hi (by omega) rfl rfl) ?_
    rintro ⟨r5, _⟩ w5 ⟨h5, hb5, k5⟩
    dsimp only at h5 hb5 ⊢
    rw [erase_filter ho2.wt hx] at h5
    have hesw : e ∉ blk sw := fun hx => heH' ((h2.own e).2 (.inr (.inr hx)))
    have he5 := k5.at (show w4.drew.heap[e]? = _ from he4) hesw
    simp only [sxn, he5, sxl, Nat.reduceAdd]
    refine ⟨by trivial, ?_⟩
    have hd5 := k5.at g4'.hd g4'.tw
    refine set_box hd5 1 _ rfl (by simp) fun w6 hd6 k6 => ?_
    obtain ⟨H6, g6, f6, kp6⟩ := g4'.setW k5 h5 (fun z hz => .inl (hb5 z hz)) k6 hd6
    have het : e ∉ [t] := by simp; rintro rfl; exact heH' ((h2.own e).2 (.inl rfl))
    have he6 := k6.at he5 het
    have hbsw : b ∉ blk sw := fun hx => by have := g3.w.lt b hx; omega
    have hbt : b ∉ [t] := by simp; rintro rfl; have := hp_lt g3.hd; omega
    have hb6 := k6.at (k5.at (show w4.drew.heap[b]? = _ from hb) hbsw) hbt
    -- the slices of numbers
    have notH : ∀ z, ¬ H' z → z ∉ blk sw ∧ z ∉ [t] := fun z hz => ⟨fun hx => hz ((h2.own z).2 (.inr (.inr hx))), by simp; rintro rfl; exact hz ((h2.own z).2 (.inl rfl))⟩
    have hds6 : SlC w6 ds 1 (cU d) := (((hds3.keeps k4 (by simp)).keeps kd (by simp)).keeps k5 (fun z hz => (notH z (hnd z hz).2).1)).keeps k6 (fun z hz => (notH z (hnd z hz).2).2)
    have hgs6 : SlC w6 gs 1 (cU g) := (((hgs3.keeps k4 (by simp)).keeps kd (by simp)).keeps k5 (fun z hz => (notH z (hng z hz).2).1)).keeps k6 (fun z hz => (notH z (hng z hz).2).2)
    have s34 := k4.size
    have s45 : w4.heap.size ≤ w5.heap.size := k5.size
    have s56 := k6.size
    have Hsub : ∀ z, H6 z → z < w4.heap.size → H' z := fun z hz hlt => (f6 z hz).elim id (fun h => by have h : w4.heap.size ≤ z := h; omega)
    have nH6 : ∀ z, z < w2.heap.size → ¬ H' z → ¬ H6 z := fun z hl hz hx => hz (Hsub z hx (by omega))
    simp only [sxn, hb6, sxl, Nat.reduceAdd]
    have hgl := cU_slen hgs6
    refine NewApp_of (bytes := 8) (new := [.int .u64 x.n]) hgs6 (by simp) (by simp [Value.oneCell']) (by kernel_rfl) (by omega) (by omega) ?_
    intro r7 w7 h7 _ k7 hb7
    have hgnH : ∀ z ∈ blk gs, ¬ H6 z := fun z hz => nH6 z (hgs.lt z hz) (hng z hz).2
    have g7 : TAt w7 t H6 ⟨s'.held, s'.wait.filter (fun y => !(y.n == x.n))⟩ := TAt.keeps ⟨_, _, g6⟩ (k7.toP (F := fun z => z ∈ blk gs) (fun z hz => .inl hz)) (fun z hz hz' => hgnH z hz' hz)
    have he7 := k7.at he6 heg
    have hbgs : b ∉ blk gs := fun hx => by have := hgs3.lt b hx; omega
    have hb7' := k7.at hb6 hbgs
    have hds7 := hds6.keeps k7 (fun z hz hz' => hdg z hz' hz)
    simp only [sxn, he7, hb7', sxl, Nat.reduceAdd]
    refine Cl.mono (grant_ok g7 (pick_ok ho2 hxm)) ?_
    rintro ⟨r8, _⟩ w8 ⟨H8, h8, f8, k8, hr8, hn8⟩
    dsimp only at hr8 hn8 ⊢
    have s67 := k7.size
    have s78 := k8.size
    have hds8 := hds7.keepsP k8 (fun z hz => nH6 z (hds.lt z hz) (hnd z hz).2)
    have hr7n : ∀ z ∈ blk r7, ¬ H6 z := fun z hz => by
      rcases hb7 z hz with h' | h'
      · exact hgnH z h'
      · intro hx
        have := g6.bl z hx
        omega
    have h7' : SlC w7 r7 1 (cU (g ++ [x.n])) := by rw [cU, List.map_append]; exact h7
    have hr7 := h7'.keepsP k8 hr7n
    have hl8 := cU_slen hr8
    have hdl := cU_slen hds8
    have hkl : (pickA x s').1.length ≤ 192 := by
      have : (pickA x s').1.length ≤ (s'.wait.filter (fun y => !(y.n == x.n))).length := killed_len x (s'.wait.filter (fun y => !(y.n == x.n)))
      have h1 := filter_short hxm
      omega
    have hrl : r8.len = (pickA x s').1.length := hl8
    refine App_of hds8 hr8.rdc (by rw [cU_len, Nat.mul_one]; exact hl8.symm) (cU_one _) (by kernel_rfl) (by omega) (by omega) ?_
    intro r9 w9 h9 _ k9 hb9
    have F8 : ∀ z, z < w2.heap.size → ¬ H' z → ¬ H8 z := fun z hl hz hx => by
      rcases f8 z hx with h' | h'
      · exact nH6 z hl hz h'
      · omega
    have hdn8 : ∀ z ∈ blk ds, ¬ H8 z := fun z hz => F8 z (hds.lt z hz) (hnd z hz).2
    have s89 := k9.size
    refine ⟨k, by omega, (pickA x s').2, H8, r9, r7, q1, q2, g ++ [x.n], d ++ (pickA x s').1, rfl, by omega, hset, h8.keeps (k9.toP (F := fun z => z ∈ blk ds) (fun z hz => .inl hz)) (fun z hz hz' => hdn8 z hz' hz), ho2.pick hxm, ?_, ?_, ?_, ?_, ?_, ?_, ?_, ?_, ?_⟩
    · intro z hz
      rcases f8 z hz with h' | h'
      · rcases f6 z h' with h'' | h''
        · rcases f2 z h'' with h3 | h3
          · exact .inl h3
          · exact .inr (by omega)
        · have h'' : w4.heap.size ≤ z := h''
          exact .inr (by omega)
      · exact .inr (by omega)
    · have a1 : KeepsP (fun x => H x ∨ x ∈ blk pd) w1 w4.drew := kp2.step (kp0 (kp0 k3 k4) kd) (by simp)
      have a2 : KeepsP (fun x => H x ∨ x ∈ blk pd) w1 w6 := a1.trans kp6 (fun z hz => (f2 z hz).elim (fun h => .inl (.inl h)) .inr)
      have a3 : KeepsP (fun x => H x ∨ x ∈ blk pd) w1 w7 := a2.step k7 (fun z hz => .inr (hng z hz).1)
      have a4 : KeepsP (fun x => H x ∨ x ∈ blk pd) w1 w8 := a3.trans k8 (fun z hz => by
        rcases f6 z hz with h' | h'
        · exact (f2 z h').elim (fun h => .inl (.inl h)) .inr
        · have h' : w4.heap.size ≤ z := h'
          exact .inr (by omega))
      exact a4.step k9 (fun z hz => (hnd z hz).1.elim (fun h => .inl (.inr h)) .inr)
    · have e1 : cU (d ++ (pickA x s').1) = cU d ++ cU (pickA x s').1 := by rw [cU, List.map_append]; rfl
      rw [e1]
      exact h9
    · exact hr7.keeps k9 (fun z hz hz' => by
        rcases hb7 z hz with h' | h'
        · exact hdg z h' hz'
        · have := hds6.lt z hz'; omega)
    · intro z hz
      rcases hb9 z hz with h' | h'
      · exact ⟨(hnd z h').1, hdn8 z h'⟩
      · exact ⟨.inr (by omega), fun hx => by have := h8.bl z hx; omega⟩
    · intro z hz
      have hz6 := hr7n z hz
      refine ⟨?_, fun hx => ?_⟩
      · rcases hb7 z hz with h' | h'
        · exact (hng z h').1
        · omega
      · rcases f8 z hx with h' | h'
        · exact hz6 h'
        · have := h7.lt z hz; omega
    · intro z hz hz9
      rcases hb9 z hz9 with h' | h'
      · rcases hb7 z hz with h3 | h3
        · exact hdg z h3 h'
        · have := hds6.lt z h'; omega
      · have := hr7.lt z hz; omega
    · rw [List.length_append]; omega
    · rw [List.length_append, List.length_singleton]; omega
  · -- none is
    have hfind : s'.wait.find? (freeA s') = none := List.find?_eq_none.2 (fun y hy => by rw [hnone y hy]; simp)
    have hDe : D = (s', g, d) := by
      rw [← hset]
      cases n with
      | zero => rfl
      | succ n => rw [settleA, hfind]
    rw [show decide ((-1 : Int) < 0) = true from rfl]
    simp only [Br_true]
    refine Cl.mono (set_ok hgs3 (by omega)) ?_
    rintro ⟨r4, _⟩ w4 ⟨l4, h4, hp4, hm4, hb4, k4⟩
    dsimp only at h4 hb4 ⊢
    refine Cl.mono (set_ok (hds3.keeps k4 (fun z hz hz' => hdg z hz' hz)) (by omega)) ?_
    rintro ⟨r5, _⟩ w5 ⟨l5, h5, hp5, hm5, hb5, k5⟩
    dsimp only at h5 hb5 ⊢
    refine hR (r4, r5, ()) _ ?_
    rw [hDe]
    dsimp only
    rw [← setA_eq hp4 hm4, ← setA_eq hp5 hm5]
    have s45 := k4.size
    refine ⟨H', ?_, fun z hz => (f2 z hz).elim .inl (fun h => .inr (by omega)), ?_, h4.keeps k5 (fun z hz hz' => hdg z (hb4 z hz) hz'), h5, fun z hz => ?_, fun z hz => ?_, fun z hz hz' => hdg z (hb4 z hz) (hb5 z hz')⟩
    · have a1 : TAt w4 t H' s' := TAt.keeps ⟨_, _, g3⟩ (k4.toP (F := fun z => z ∈ blk gs) (fun z hz => .inl hz)) (fun z hz hz' => (hng z hz').2 hz)
      exact a1.keeps (k5.toP (F := fun z => z ∈ blk ds) (fun z hz => .inl hz)) (fun z hz hz' => (hnd z hz').2 hz)
    · have a0 : KeepsP (fun x => H x ∨ x ∈ blk pd) w w2 := (k1.toP (F := fun x => H x ∨ x ∈ blk pd) (by simp)).same kp2
      have a1 := a0.step k3 (by simp)
      have a2 := a1.step k4 (fun z hz => .inr (by have := (hng z hz).1; omega))
      exact a2.step k5 (fun z hz => (hnd z hz).1.elim (fun h => .inl (.inr h)) (fun h => .inr (by omega)))
    · obtain ⟨h', h''⟩ := hng z (hb4 z hz)
      exact ⟨by omega, h''⟩
    · obtain ⟨h', h''⟩ := hnd z (hb5 z hz)
      exact ⟨h'.elim .inl (fun h => .inr (by omega)), h''⟩
end Go.Proofs.Ytmppjgddemlmdaa
