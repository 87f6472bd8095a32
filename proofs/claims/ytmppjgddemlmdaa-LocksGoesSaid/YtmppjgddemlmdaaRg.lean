/- The reference's table: grant, next, wait. Conditions: none. -/
import Derived.Test.YtmppjgddemlmdaaRt
set_option linter.unusedVariables false
set_option linter.unusedSimpArgs false
namespace Go.Proofs.Ytmppjgddemlmdaa
open Go Go.Sx

theorem zc78e : zc Try.prog 78 = #[.int .u64 0, .string (BA []), .string (BA []), .bool false] := by kernel_rfl
theorem killed_rising {x : Ak} {l : List Ak} (h : l.Pairwise (fun a b => a.n < b.n)) : (killed x l).Pairwise (· < ·) := by
  unfold killed
  rw [List.pairwise_map]
  exact h.filter _

/-- 't.H = without(t.H, n); t.W = without(t.W, n)'. -/
theorem dropR_w {w : World} {t : Nat} {H : Nat → Prop} {s : TS} (h : XAt w t H s) (ho : TOk s) (n : Int) {K : Pr} (hK : ∀ w', XSt w w' t H (dropA n s) → K w') :
    LdL ⟨t, 0, none⟩ (fun x50 => Cl Try.prog 46 [(.slice x50.p x50.len x50.cap), (.int .u64 n)] false [.sc .sl] fun r51 =>
      St ⟨t, 0, none⟩ (.slice r51.1.p r51.1.len r51.1.cap) <|
      LdL ⟨t, 1, none⟩ fun x54 => Cl Try.prog 46 [(.slice x54.p x54.len x54.cap), (.int .u64 n)] false [.sc .sl] fun r55 =>
      St ⟨t, 1, none⟩ (.slice r55.1.p r55.1.len r55.1.cap) <| K) w := by
  obtain ⟨sh, sw, h⟩ := h
  have hfew := ho.few
  simp only [sxn, h.hd, sxl, Nat.reduceAdd]
  refine Cl.mono (without_ok h.h n (by omega)) ?_
  rintro ⟨r1, _⟩ w1 ⟨h1, b1, k1⟩
  dsimp only at h1 b1 ⊢
  have g1 := h.keeps0 k1
  refine set_box g1.hd 0 _ rfl (by simp) fun w2 hd2 k2 => ?_
  have b1' : ∀ y ∈ blk r1, y ∈ blk sh ∨ w.heap.size ≤ y := fun y hy => .inr (b1 y hy)
  obtain ⟨H2, g2, f2, kp2⟩ := h.setH (k1.mono (by simp)) h1 b1' k2 hd2
  simp only [sxn, g2.hd, sxl, Nat.reduceAdd]
  refine Cl.mono (without_ok g2.w n (by dsimp only; omega)) ?_
  rintro ⟨r3, _⟩ w3 ⟨h3, b3, k3⟩
  dsimp only at h3 b3 ⊢
  have g3 := g2.keeps0 k3
  refine set_box g3.hd 1 _ rfl (by simp) fun w4 hd4 k4 => ?_
  obtain ⟨H4, g4, f4, kp4⟩ := g2.setW (k3.mono (by simp)) h3 (fun y hy => .inr (b3 y hy)) k4 hd4
  have s2 := kp2.size
  exact hK w4 ⟨H4, ⟨_, _, g4⟩, f2.trans f4 s2, kp2.trans kp4 (fun x hx => f2 x hx)⟩

set_option maxRecDepth 8000 in
theorem grantR_ok {w : World} {t : Nat} {H : Nat → Prop} {s : TS} (h : XAt w t H s) {x : Ak} (ho : TOk ⟨s.held ++ [x], s.wait⟩) :
    Cl Try.prog i_sumpterref16_Table_grant [.pointer (some ⟨t, 0, none⟩), vA x] false [.sc .sl] (fun r w' => ∃ H', XAt w' t H' (grantA x s).2 ∧ Fr H H' w ∧ KeepsP H w w' ∧ SlC w' r.1 1 (cU (grantA x s).1) ∧ (∀ y ∈ blk r.1, w.heap.size ≤ y ∧ ¬ H' y)) w := by
  obtain ⟨sh, sw, h⟩ := h
  have hfew := ho.few
  rw [List.length_append] at hfew
  simp only [List.length_singleton] at hfew
  have hlh := as_len h.h
  have hlw := as_len h.w
  refine Cl_gen fun R hR => ?_
  apply sumpterref16_Table_grant_call
  unfold sumpterref16_Table_grant
  have ltH : ∀ y, H y → y < w.heap.size := h.bl
  refine New_bx fun a w1 ha na k1 => ?_
  have g1 := h.keeps0 k1
  have hcap := g1.h.cap
  simp only [sxn, g1.hd, ha, sxl, Nat.reduceAdd]
  refine ⟨⟨by omega, by omega⟩, ⟨by omega, by omega⟩, ?_⟩
  refine New_bx fun c w2 hc nc k2 => ?_
  have g2 := (h.keeps0 k1.drew).keeps0 k2
  have ha := k2.at (w := w1.drew) ha (by simp)
  simp only [sxn, g2.hd, sxl, Nat.reduceAdd]
  refine ⟨by trivial, by trivial, by trivial, ?_⟩
  simp only [slOff_zero, Int.toNat_natCast, Nat.sub_zero]
  refine App_new (s := ⟨sh.p, sh.len, sh.len⟩) (new := cA x) g2.h.rdc ⟨rfl, fun j v hj => ⟨_, rfl, by rw [add_of, cell_of hc, Nat.zero_add]; simpa [cA] using hj⟩⟩ (by rw [cA_len]) (cA_one x) (by kernel_rfl) (by dsimp only; omega) (by dsimp only; omega) (by dsimp only; omega) ?_
  intro r w3 h3 _ k3 hb3
  have g3 := g2.keeps0 k3
  have ha := k3.at ha (by simp)
  have hat : a ≠ t := fun e => by have := hp_lt h.hd; omega
  refine set_box g3.hd 0 _ rfl (by simp) fun w4 hd4 k4 => ?_
  have h3' : As w3 r (s.held ++ [x]) := by show SlC _ _ _ _; rw [List.flatMap_append]; simpa using h3
  obtain ⟨H4, g4, f4, kp4⟩ := g2.setH (k3.mono (by simp)) h3' (fun y hy => .inr (hb3 y hy)) k4 hd4
  have ha := k4.at ha (by simpa using hat)
  have hbl4 : ∀ y, H4 y → y < w4.heap.size := g4.bl
  simp only [sxn, g4.hd, sxl, Nat.reduceAdd]
  have size02 : w.heap.size ≤ w2.heap.size := by have := k1.size; have := k2.size; have : w1.drew.heap.size = w1.heap.size := rfl; omega
  have size04 : w.heap.size ≤ w4.heap.size := by have := k3.size; have := k4.size; omega
  refine ⟨fun n st w' => ∃ (i : Nat) (ds : Sl), st = (ds, (i : Int), ()) ∧ n = s.wait.length - i ∧ i ≤ s.wait.length ∧ SlC w' ds 1 (cU (setA (killed x (s.wait.take i)))) ∧ (∀ y ∈ blk ds, w4.heap.size ≤ y) ∧ Keeps [] w4 w', ⟨_, 0, ⟨none, 0, 0⟩, rfl, rfl, by omega, SlC.nil _ 1, by simp [blk], Keeps.refl _ _⟩, ?_⟩
  rintro n _ w6 ⟨i, ds, rfl, rfl, hi, h6, hb6, k6⟩
  dsimp only
  have g6 := g4.keeps0 k6
  have ha := k6.at ha (by simp)
  have hkl := killed_len x (s.wait.take i)
  rw [List.length_take] at hkl
  have hwt : (s.wait.take i).Pairwise (fun a b => a.n < b.n) := ho.wt.sublist (List.take_sublist _ _)
  rw [setA_self (killed_rising hwt)] at h6
  have hl6 := cU_slen h6
  by_cases hlt : i < s.wait.length
  · rw [decide_eq_true (by omega)]
    simp only [Br_true]
    obtain ⟨y, hy⟩ : ∃ y, s.wait[i]? = some y := ⟨_, List.getElem?_eq_getElem hlt⟩
    refine Jp_of (fun st w' => ∃ ds', st = (ds', ()) ∧ SlC w' ds' 1 (cU (setA (killed x (s.wait.take (i + 1))))) ∧ (∀ y ∈ blk ds', w4.heap.size ≤ y) ∧ Keeps [] w4 w') (fun J hJ => ?_) ?_
    rotate_left
    · rintro _ w7 ⟨ds', rfl, h7, hb7, k7⟩
      exact ⟨s.wait.length - (i + 1), by omega, i + 1, ds', by rw [w64p (by omega)], rfl, by omega, h7, hb7, k7⟩
    refine as_ld g6.w hy ?_
    refine bx5 fun b w7 hb n7 k7 => ?_
    have ha := k7.at ha (by simp)
    refine Jp_of (fun st w' => st = (decide (x.n < y.n) && wayA x y, ()) ∧ w'.heap[b]? = some (.cells #[.int .u64 y.n, .string y.lo, .string y.hi, .bool y.wr] 78 (0, 0)) ∧ Keeps [] w7 w') (fun J2 hJ2 => ?_) ?_
    · simp only [sxn, ha, hb, sxl, Nat.reduceAdd]
      by_cases hlt2 : x.n < y.n
      · rw [decide_eq_true (show y.n > x.n from hlt2)]
        simp only [sxn, ha, hb, sxl, Nat.reduceAdd]
        refine Cl.mono (Way_ok y x _) ?_
        rintro ⟨q, _⟩ w8 ⟨e8, k8⟩
        dsimp only at e8
        rw [wayA_comm] at e8
        subst e8
        exact hJ2 _ _ ⟨by rw [decide_eq_true hlt2]; rfl, k8.at hb (by simp), k8⟩
      · rw [decide_eq_false (show ¬ y.n > x.n from hlt2)]
        exact hJ2 _ _ ⟨by rw [decide_eq_false hlt2]; rfl, hb, Keeps.refl _ _⟩
    · rintro _ w8 ⟨rfl, hb8, k8⟩
      dsimp only
      have k58 := kp0 (kp0 k6 k7) k8
      have h8 := h6.keeps (kp0 k7 k8) (by simp)
      have hset : ∀ m, setA (killed x (s.wait.take i) ++ [m]) = addA (killed x (s.wait.take i)) m := fun m => by rw [setA_add, setA_self (killed_rising hwt)]
      cases hcond : decide (x.n < y.n) && wayA x y with
      | true =>
        simp only [sxn, hb8, sxl, Nat.reduceAdd]
        refine Cl.mono (Add_ok h8 y.n (by omega)) ?_
        rintro ⟨r9, _⟩ w9 ⟨h9, hb9, k9⟩
        dsimp only at h9 hb9
        refine hJ (r9, ()) _ ⟨r9, rfl, ?_, fun z hz => ?_, kp0 k58 k9⟩
        · rw [killed_succ x s.wait hy, hcond, if_pos rfl, hset]
          exact h9
        · rcases hb9 z hz with h' | h'
          · exact hb6 z h'
          · have := k58.size; omega
      | false =>
        refine hJ (ds, ()) _ ⟨ds, rfl, ?_, hb6, k58⟩
        rw [killed_succ x s.wait hy, hcond, if_neg (by simp), List.append_nil, setA_self (killed_rising hwt)]
        exact h8
  · rw [decide_eq_false (by omega)]
    simp only [Br_false]
    rw [List.take_of_length_le (by omega)] at h6
    generalize hd : killed x s.wait = d at h6
    have hdl : d.length ≤ 192 := by rw [← hd]; have := killed_len x s.wait; omega
    have hdl' := cU_slen h6
    have hnH : ∀ y ∈ blk ds, ¬ H4 y := fun y hy hH => by have := hb6 y hy; have := hbl4 y hH; omega
    refine ⟨fun n st w' => ∃ (i : Nat) (H' : Nat → Prop), st = ((i : Int), ()) ∧ n = d.length - i ∧ i ≤ d.length ∧ XAt w' t H' (dropAll (d.take i) ⟨s.held ++ [x], s.wait⟩) ∧ Fr H4 H' w6 ∧ KeepsP H4 w6 w' ∧ SlC w' ds 1 (cU d) ∧ (∀ y ∈ blk ds, ¬ H' y), ⟨_, 0, H4, rfl, rfl, by omega, ⟨_, _, g6⟩, Fr.refl _ _, KeepsP.refl _ _, h6, hnH⟩, ?_⟩
    rintro n _ w7 ⟨i, H', rfl, rfl, hi, h7, f7, k7, hds, hn7⟩
    dsimp only
    by_cases hlt2 : i < d.length
    · rw [decide_eq_true (by omega)]
      simp only [Br_true]
      obtain ⟨y, hy⟩ : ∃ y, d[i]? = some y := ⟨_, List.getElem?_eq_getElem hlt2⟩
      refine Ix_cu hds hy ?_
      refine dropR_w h7 (TOk.dropAll ho) y ?_
      rintro w8 ⟨H8, h8, f8, k8⟩
      refine ⟨d.length - (i + 1), by omega, i + 1, H8, by rw [w64p (by omega)], rfl, by omega, ?_, f7.trans f8 k7.size, k7.trans k8 (fun z hz => f7 z hz), hds.keepsP k8 hn7, fun z hz hH => ?_⟩
      · rw [List.take_add_one, hy]
        unfold dropAll at h8 ⊢
        rw [List.foldl_append]
        exact h8
      · rcases f8 z hH with h' | h'
        · exact hn7 z hz h'
        · have := hds.lt z hz; omega
    · rw [decide_eq_false (by omega)]
      rw [List.take_of_length_le (by omega)] at h7
      have e1 : (grantA x s).1 = d := hd
      have e2 : (grantA x s).2 = dropAll d ⟨s.held ++ [x], s.wait⟩ := by rw [← hd]; rfl
      have size26 : w2.heap.size ≤ w6.heap.size := by have := k3.size; have := k4.size; have := k6.size; omega
      refine hR (ds, ()) _ ⟨H', by rw [e2]; exact h7, ?_, ?_, by rw [e1]; exact hds, fun z hz => ⟨by have := hb6 z hz; omega, hn7 z hz⟩⟩
      · intro z hz
        rcases f7 z hz with h' | h'
        · rcases f4 z h' with h'' | h''
          · exact .inl h''
          · exact .inr (by omega)
        · exact .inr (by omega)
      · have q1 : KeepsP H w w4 := ((kp0 k1.drew k2).toP (F := H) (by simp)).same kp4
        have q2 : KeepsP H w w6 := q1.step k6 (by simp)
        refine q2.trans k7 (fun z hz => ?_)
        rcases f4 z hz with h' | h'
        · exact .inl h'
        · exact .inr (by omega)

theorem nextR_ok {w : World} {t : Nat} {H : Nat → Prop} {s : TS} (h : XAt w t H s) (ho : TOk s) :
    Cl Try.prog i_sumpterref16_Table_next [.pointer (some ⟨t, 0, none⟩)] true [.ag [.i .u64, .s, .s, .b], .sc .b] (fun r w' => (match s.wait.find? (freeA s) with
      | some x => r.1 = (x.n, x.lo, x.hi, x.wr, ()) ∧ r.2.1 = true
      | none => r.2.1 = false) ∧ Keeps [] w w') w := by
  have h0 := h
  obtain ⟨sh, sw, h⟩ := h
  have hfew := ho.few
  have hlw := as_len h.w
  refine Cl_gen fun R hR => ?_
  apply sumpterref16_Table_next_call
  unfold sumpterref16_Table_next
  refine New_bx fun a w0 ha na k0 => ?_
  have g0 := h.keeps0 k0
  simp only [sxn, g0.hd, sxl, Nat.reduceAdd]
  refine ⟨fun k st w' => ∃ (i : Nat) (q : Bool), st = (q, (i : Int), ()) ∧ k = s.wait.length - i ∧ i ≤ s.wait.length ∧ (∀ y ∈ s.wait.take i, freeA s y = false) ∧ Keeps [] w0 w', ⟨_, 0, false, rfl, rfl, by omega, by simp, Keeps.refl _ _⟩, ?_⟩
  rintro k _ w1 ⟨i, q, rfl, rfl, hi, hp, k1⟩
  dsimp only
  have ha1 := k1.at ha (by simp)
  have k01 := kp0 k0 k1
  by_cases hlt : i < s.wait.length
  · rw [decide_eq_true (by omega)]
    simp only [Br_true]
    obtain ⟨y, hy⟩ : ∃ y, s.wait[i]? = some y := ⟨_, List.getElem?_eq_getElem hlt⟩
    refine as_ld (g0.w.keeps k1 (by simp)) hy ?_
    refine bx5 fun b w2 hb nb k2 => ?_
    simp only [sxn, hb, sxl, Nat.reduceAdd]
    have k02 := kp0 k01 k2
    refine Cl.mono (freeR_ok (h0.keeps0 k02) ho y) ?_
    rintro ⟨r, _⟩ w3 ⟨e, k3⟩
    dsimp only at e
    subst e
    have k03 := kp0 k02 k3
    have hb3 := k3.at hb (by simp)
    have ha3 := k3.at (k2.at ha1 (by simp)) (by simp)
    cases hc : freeA s y with
    | true =>
      simp only [sxn, hb3, sxl, Nat.reduceAdd]
      refine set_box ha3 0 _ rfl (by simp) fun w4 h4 k4 => ?_
      refine set_box h4 1 _ rfl (by simp) fun w5 h5 k5 => ?_
      refine set_box h5 2 _ rfl (by simp) fun w6 h6 k6 => ?_
      refine set_box h6 3 _ rfl (by simp) fun w7 h7 k7 => ?_
      have h7' : w7.heap[a]? = some (.cells #[.int .u64 y.n, .string y.lo, .string y.hi, .bool y.wr] 78 (0, 0)) := h7
      simp only [sxn, h7', sxl, Nat.reduceAdd]
      refine hR ((y.n, y.lo, y.hi, y.wr, ()), true, ()) _ ⟨?_, kpx (kpx (kpx (kpx k03 k4 (by simpa using na)) k5 (by simpa using na)) k6 (by simpa using na)) k7 (by simpa using na)⟩
      rw [find_of hy hc hp]
      exact ⟨rfl, rfl⟩
    | false =>
      simp only [Br_false]
      refine ⟨s.wait.length - (i + 1), by omega, i + 1, q, by rw [w64p (by omega)], rfl, by omega, fun z hz => ?_, kp0 (kp0 k1 k2) k3⟩
      rw [List.take_add_one, hy] at hz
      simp at hz
      rcases hz with hz | rfl
      · exact hp z hz
      · exact hc
  · rw [decide_eq_false (by omega)]
    rw [List.take_of_length_le (by omega)] at hp
    simp only [Br_false]
    refine set_box ha1 0 _ rfl (by simp) fun w4 h4 k4 => ?_
    refine set_box h4 1 _ rfl (by simp) fun w5 h5 k5 => ?_
    refine set_box h5 2 _ rfl (by simp) fun w6 h6 k6 => ?_
    refine set_box h6 3 _ rfl (by simp) fun w7 h7 k7 => ?_
    have h7' : w7.heap[a]? = some (.cells #[.int .u64 0, .string (BA []), .string (BA []), .bool false] 78 (0, 0)) := h7
    simp only [sxn, h7', sxl, Nat.reduceAdd]
    refine hR ((0, BA [], BA [], false, ()), false, ()) _ ⟨?_, kpx (kpx (kpx (kpx k01 k4 (by simpa using na)) k5 (by simpa using na)) k6 (by simpa using na)) k7 (by simpa using na)⟩
    rw [List.find?_eq_none.2 (fun y hy => by rw [hp y hy]; simp)]
end Go.Proofs.Ytmppjgddemlmdaa
