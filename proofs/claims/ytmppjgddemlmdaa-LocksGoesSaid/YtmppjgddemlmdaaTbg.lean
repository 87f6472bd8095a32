/- The lock table: grant. Conditions: none. -/
import Derived.Test.YtmppjgddemlmdaaTbl
set_option linter.unusedVariables false
set_option linter.unusedSimpArgs false
namespace Go.Proofs.Ytmppjgddemlmdaa
open Go Go.Sx

def killed (x : Ak) (wt : List Ak) : List Int := (wt.filter (fun w => decide (x.n < w.n) && wayA x w)).map (·.n)
def dropAll (d : List Int) (s : TS) : TS := d.foldl (fun s n => dropA n s) s
def grantA (x : Ak) (s : TS) : List Int × TS := (killed x s.wait, dropAll (killed x s.wait) ⟨s.held ++ [x], s.wait⟩)
theorem TOk.dropAll {d : List Int} {s : TS} (h : TOk s) : TOk (dropAll d s) := by
  unfold Ytmppjgddemlmdaa.dropAll
  induction d generalizing s with
  | nil => exact h
  | cons n d ih => exact ih (h.drop n)
theorem killed_len (x : Ak) (l : List Ak) : (killed x l).length ≤ l.length := by
  unfold killed
  rw [List.length_map]
  exact List.length_filter_le _ _
theorem killed_succ (x : Ak) (l : List Ak) {i : Nat} {y : Ak} (hy : l[i]? = some y) : killed x (l.take (i + 1)) = killed x (l.take i) ++ (if decide (x.n < y.n) && wayA x y then [y.n] else []) := by
  unfold killed
  rw [List.take_add_one, hy, List.filter_append, List.map_append]
  congr 1
  cases hc : decide (x.n < y.n) && wayA x y <;> simp [hc]

theorem TSt.pre {w0 w w1 : World} {t : Nat} {H : Nat → Prop} {s : TS} (k : Keeps [] w0 w) (h : TSt w w1 t H s) : TSt w0 w1 t H s := by
  obtain ⟨H', h1, h2, h3⟩ := h
  have := k.size
  exact ⟨H', h1, fun x hx => (h2 x hx).elim .inl (fun h => .inr (by omega)), (k.toP (F := H) (by simp)).same h3⟩
theorem TSt.post {w w1 w2 : World} {t : Nat} {H : Nat → Prop} {s : TS} (h : TSt w w1 t H s) (k : Keeps [] w1 w2) : TSt w w2 t H s := by
  obtain ⟨H', h1, h2, h3⟩ := h
  exact ⟨H', h1.keeps0 k, h2, h3.step k (by simp)⟩

theorem grant_ok {w : World} {t : Nat} {H : Nat → Prop} {s : TS} (h : TAt w t H s) {x : Ak} (ho : TOk ⟨s.held ++ [x], s.wait⟩) :
    Cl Try.prog i_locks_Table_grant [.pointer (some ⟨t, 0, none⟩), vA x] false [.sc .sl] (fun r w' => ∃ H', TAt w' t H' (grantA x s).2 ∧ Fr H H' w ∧ KeepsP H w w' ∧ SlC w' r.1 1 (cU (grantA x s).1) ∧ (∀ y ∈ blk r.1, w.heap.size ≤ y ∧ ¬ H' y)) w := by
  obtain ⟨sh, sw, h⟩ := h
  have hfew := ho.few
  rw [List.length_append] at hfew
  simp only [List.length_singleton] at hfew
  have hlh := as_len h.h
  have hlw := as_len h.w
  refine Cl_gen fun R hR => ?_
  apply locks_Table_grant_call
  unfold locks_Table_grant
  have ltH : ∀ y, H y → y < w.heap.size := h.bl
  refine New_bx fun a w1 ha na k1 => ?_
  have g1 := h.keeps0 k1
  simp only [sxn, g1.hd, ha, sxl, Nat.reduceAdd]
  have la := hp_lt ha
  refine New_bx fun c w2 hc nc k2 => ?_
  have g2 := (h.keeps0 k1.drew).keeps0 k2
  have ha := k2.at (w := w1.drew) ha (by simp)
  simp only [sxn, g2.hd, sxl, Nat.reduceAdd]
  refine ⟨by trivial, ?_⟩
  refine App_of (new := cA x) g2.h ⟨rfl, fun j v hj => ⟨_, rfl, by rw [add_of, cell_of hc, Nat.zero_add]; simpa [cA] using hj⟩⟩ (by rw [cA_len]) (cA_one x) (by kernel_rfl) (by omega) (by omega) ?_
  intro r w3 h3 _ k3 hb3
  have hd3 := k3.at g2.hd g2.th
  have hash : a ∉ blk sh := fun hx => by have := h.h.lt a hx; omega
  have hat : a ≠ t := fun e => by have := hp_lt h.hd; omega
  have ha := k3.at ha hash
  refine set_box hd3 0 _ rfl (by simp) fun w4 hd4 k4 => ?_
  have h3' : As w3 r (s.held ++ [x]) := by show SlC _ _ _ _; rw [List.flatMap_append]; simpa using h3
  obtain ⟨H4, g4, f4, kp4⟩ := g2.setH k3 h3' hb3 k4 hd4
  have ha := k4.at ha (by simpa using hat)
  have hd4' := g4.hd
  simp only [sxn, ha, sxl, Nat.reduceAdd]
  refine Cl.mono (against_ok x _) ?_
  rintro ⟨f, _⟩ w5 ⟨e, ne, hf, k5⟩
  dsimp only at hf ⊢
  have g5 := g4.keeps0 k5
  have ha := k5.at ha (by simp)
  have hbl5 : ∀ y, H4 y → y < w5.heap.size := g5.bl
  simp only [sxn, g5.hd, sxl, Nat.reduceAdd]
  have size02 : w.heap.size ≤ w2.heap.size := by have := k1.size; have := k2.size; have : w1.drew.heap.size = w1.heap.size := rfl; omega
  have size05 : w.heap.size ≤ w5.heap.size := by have := k3.size; have := k4.size; have := k5.size; omega
  refine ⟨fun n st w' => ∃ (i : Nat) (ds : Sl), st = (ds, (i : Int), ()) ∧ n = s.wait.length - i ∧ i ≤ s.wait.length ∧ SlC w' ds 1 (cU (killed x (s.wait.take i))) ∧ (∀ y ∈ blk ds, w5.heap.size ≤ y) ∧ Keeps [] w5 w', ⟨_, 0, ⟨none, 0, 0⟩, rfl, rfl, by omega, SlC.nil _ 1, by simp [blk], Keeps.refl _ _⟩, ?_⟩
  rintro n _ w6 ⟨i, ds, rfl, rfl, hi, h6, hb6, k6⟩
  dsimp only
  have g6 := g5.keeps0 k6
  have ha := k6.at ha (by simp)
  have hl6 := cU_slen h6
  have hkl := killed_len x (s.wait.take i)
  rw [List.length_take] at hkl
  by_cases hlt : i < s.wait.length
  · rw [decide_eq_true (by omega)]
    simp only [Br_true]
    obtain ⟨y, hy⟩ : ∃ y, s.wait[i]? = some y := ⟨_, List.getElem?_eq_getElem hlt⟩
    refine Jp_of (fun st w' => ∃ ds', st = (ds', ()) ∧ SlC w' ds' 1 (cU (killed x (s.wait.take (i + 1)))) ∧ (∀ y ∈ blk ds', w5.heap.size ≤ y) ∧ Keeps [] w5 w') (fun J hJ => ?_) ?_
    rotate_left
    · rintro _ w7 ⟨ds', rfl, h7, hb7, k7⟩
      exact ⟨s.wait.length - (i + 1), by omega, i + 1, ds', by rw [w64p (by omega)], rfl, by omega, h7, hb7, k7⟩
    refine as_ld g6.w hy ?_
    refine bx4 fun b w7 hb n7 k7 => ?_
    have ha := k7.at ha (by simp)
    refine Jp_of (fun st w' => st = (decide (x.n < y.n) && wayA x y, ()) ∧ w'.heap[b]? = some (.cells #[.int .u64 y.n, .string y.lo, .string y.hi, .bool y.wr] 48 (0, 0)) ∧ Keeps [] w7 w') (fun J2 hJ2 => ?_) ?_
    · simp only [sxn, ha, hb, sxl, Nat.reduceAdd]
      by_cases hlt2 : x.n < y.n
      · rw [decide_eq_true (show y.n > x.n from hlt2)]
        simp only [sxn, hb, sxl, Nat.reduceAdd]
        refine CallV.mono ((hf [] (by simp)).to k6 w7 k7 y) ?_
        rintro ⟨q, _⟩ w8 ⟨e8, k8⟩
        dsimp only at e8
        subst e8
        exact hJ2 _ _ ⟨by rw [decide_eq_true hlt2]; rfl, k8.at hb (by simp), k8⟩
      · rw [decide_eq_false (show ¬ y.n > x.n from hlt2)]
        exact hJ2 _ _ ⟨by rw [decide_eq_false hlt2]; rfl, hb, Keeps.refl _ _⟩
    · rintro _ w8 ⟨rfl, hb8, k8⟩
      dsimp only
      have k58 := kp0 (kp0 k6 k7) k8
      have h8 := h6.keeps (kp0 k7 k8) (by simp)
      cases hcond : decide (x.n < y.n) && wayA x y with
      | true =>
        simp only [sxn, hb8, sxl, Nat.reduceAdd]
        refine NewApp_of (bytes := 8) (new := [.int .u64 y.n]) h8 (by simp) (by simp [Value.oneCell']) (by kernel_rfl) (by omega) (by omega) ?_
        intro r9 w9 h9 _ k9 hb9
        refine hJ (r9, ()) _ ⟨r9, rfl, ?_, fun z hz => ?_, kpx k58 k9 (fun z hz => hb6 z hz)⟩
        · rw [killed_succ x s.wait hy, hcond, if_pos rfl, cU, List.map_append]
          exact h9
        · rcases hb9 z hz with h' | h'
          · exact hb6 z h'
          · have := k58.size; omega
      | false =>
        refine hJ (ds, ()) _ ⟨ds, rfl, ?_, hb6, k58⟩
        rw [killed_succ x s.wait hy, hcond, if_neg (by simp), List.append_nil]
        exact h8
  · rw [decide_eq_false (by omega)]
    simp only [Br_false]
    rw [List.take_of_length_le (by omega)] at h6
    generalize hd : killed x s.wait = d at h6
    have hdl : d.length ≤ 192 := by rw [← hd]; have := killed_len x s.wait; omega
    have hdl' := cU_slen h6
    have hnH : ∀ y ∈ blk ds, ¬ H4 y := fun y hy hH => by have := hb6 y hy; have := hbl5 y hH; omega
    refine ⟨fun n st w' => ∃ (i : Nat) (H' : Nat → Prop), st = ((i : Int), ()) ∧ n = d.length - i ∧ i ≤ d.length ∧ TAt w' t H' (dropAll (d.take i) ⟨s.held ++ [x], s.wait⟩) ∧ Fr H4 H' w6 ∧ KeepsP H4 w6 w' ∧ SlC w' ds 1 (cU d) ∧ (∀ y ∈ blk ds, ¬ H' y), ⟨_, 0, H4, rfl, rfl, by omega, ⟨_, _, g6⟩, Fr.refl _ _, KeepsP.refl _ _, h6, hnH⟩, ?_⟩
    rintro n _ w7 ⟨i, H', rfl, rfl, hi, h7, f7, k7, hds, hn7⟩
    dsimp only
    by_cases hlt2 : i < d.length
    · rw [decide_eq_true (by omega)]
      simp only [Br_true]
      obtain ⟨y, hy⟩ : ∃ y, d[i]? = some y := ⟨_, List.getElem?_eq_getElem hlt2⟩
      refine Ix_cu hds hy ?_
      refine Cl.mono (drop_ok h7 (TOk.dropAll ho) y) ?_
      rintro _ w8 ⟨H8, h8, f8, k8⟩
      refine ⟨d.length - (i + 1), by omega, i + 1, H8, by rw [w64p (by omega)], rfl, by omega, ?_, f7.trans f8 k7.size, k7.trans k8 (fun z hz => f7 z hz), hds.keepsP k8 hn7, fun z hz hH => ?_⟩
      · rw [List.take_add_one, hy]
        unfold dropAll at h8 ⊢
        rw [List.foldl_append]
        exact h8
      · rcases f8 z hH with h' | h'
        · exact hn7 z hz h'
        · have := hds.lt z hz; omega
    · rw [decide_eq_false (by omega)]
      rw [List.take_of_length_le (by omega)] at h7
      have e1 : (grantA x s).1 = d := hd
      have e2 : (grantA x s).2 = dropAll d ⟨s.held ++ [x], s.wait⟩ := by rw [← hd]; rfl
      have size26 : w2.heap.size ≤ w6.heap.size := by have := k3.size; have := k4.size; have := k5.size; have := k6.size; omega
      refine hR (ds, ()) _ ⟨H', by rw [e2]; exact h7, ?_, ?_, by rw [e1]; exact hds, fun z hz => ⟨by have := hb6 z hz; omega, hn7 z hz⟩⟩
      · intro z hz
        rcases f7 z hz with h' | h'
        · rcases f4 z h' with h'' | h''
          · exact .inl h''
          · exact .inr (by omega)
        · exact .inr (by omega)
      · have q1 : KeepsP H w w4 := ((kp0 k1.drew k2).toP (F := H) (by simp)).same kp4
        have q2 : KeepsP H w w6 := q1.step (kp0 k5 k6) (by simp)
        refine q2.trans k7 (fun z hz => ?_)
        rcases f4 z hz with h' | h'
        · exact .inl h'
        · exact .inr (by omega)
end Go.Proofs.Ytmppjgddemlmdaa
