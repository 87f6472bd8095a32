/- LocksApart: its walk. Conditions: none. -/
import Derived.Test.YtmppjgddemlmdaaLg
set_option linter.unusedVariables false
set_option linter.unusedSimpArgs false
namespace Go.Proofs.Ytmppjgddemlmdaa
open Go Go.Sx

theorem settle_granted {k : Nat} {s : TS} {d0 : List Int} (hk : s.wait.length ≤ k) {P : Int → Prop} (hP : ∀ y ∈ allA s, P y.n) : ∀ n ∈ (settleA k s [] d0).2.1, P n := by
  have := (settle_ind (Q := fun s' g _ => (∀ y ∈ allA s', P y.n) ∧ ∀ n ∈ g, P n) ?_ (k := k) (g := []) (d := d0) ⟨hP, by simp⟩ hk).1
  · exact this.2
  · rintro s' g d x ⟨h1, h2⟩ hx hf
    refine ⟨fun y hy => h1 y (pick_all hx hy), fun n hn => ?_⟩
    rcases List.mem_append.1 hn with hn | hn
    · exact h2 n hn
    · rw [List.mem_singleton.1 hn]
      exact h1 x (mem_all.2 (.inr hx))
theorem rel_gr_len {s : TS} (ho : TOk s) (n : Int) : (relA n s).1.1.length ≤ 192 := by
  have : (relA n s).1.1 = setA (settleA (dropA n s).wait.length (dropA n s) [] []).2.1 := rfl
  rw [this]
  exact setA_len ho (settle_granted (P := fun m => ∃ y ∈ allA s, y.n = m) (Nat.le_refl _) (fun y hy => ⟨y, drop_all hy, rfl⟩))
theorem ask_gr_len {s : TS} (ho : TOk s) (x : Ak) : (askA x s).1.2.1.length ≤ 192 := by
  unfold askA
  split
  · simp
  split
  · simp
  split
  · simp
  split
  · simp
  rename_i hf
  split
  · have ho' : TOk ⟨s.held ++ [x], s.wait⟩ := ⟨ho.wt, by show (s.held ++ [x]).length + s.wait.length ≤ 192; rw [List.length_append, List.length_singleton]; omega⟩
    refine setA_len ho' (settle_granted (P := fun m => ∃ y ∈ allA ⟨s.held ++ [x], s.wait⟩, y.n = m) (Nat.le_refl _) (fun y hy => ?_))
    exact ⟨y, (grant_all hy).elim (fun h => (mem_all.1 h).elim (fun h => mem_all.2 (.inl (List.mem_append.2 (.inl h)))) (fun h => mem_all.2 (.inr h))) (fun h => by rw [h]; exact mem_all.2 (.inl (List.mem_append.2 (.inr (List.mem_singleton.2 rfl))))), rfl⟩
  split
  · simp
  · simp
theorem gone_holds {D : List Int} {s : TS} (h : Gone D s) {n : Int} (hn : n ∈ D) : (holdsA n s).length = 0 := by
  have : holdsA n s = [] := List.filter_eq_nil_iff.2 (fun y hy => by have := h n hn y (mem_all.2 (.inl hy)); simpa using this)
  rw [this]; rfl

set_option maxRecDepth 8000 in
theorem LocksApart_ok {w : World} {l : Sl} {os : List Op} (h : RdC l.p (l.len * 6) (os.flatMap encO) w) :
    Cl Try.prog i_sumpterlaw16_LocksApart [.slice l.p l.len l.cap] false [.sc .b] (fun r w' => r.1 = true ∧ Keeps [] w w') w := by
  refine Cl_gen fun R hR => ?_
  have hol := ops_len h
  apply sumpterlaw16_LocksApart_call
  unfold sumpterlaw16_LocksApart
  refine Cl.mono start_ok ?_
  rintro ⟨r1, _⟩ w1 ⟨e1, hs⟩
  dsimp only at e1
  subst e1
  refine Cl.mono hs ?_
  rintro ⟨_, _⟩ w2 ⟨t, H, rfl, O⟩
  dsimp only
  rw [show Option.isNone (some (⟨t, 0, none⟩ : Addr)) = false from rfl]
  refine Jp_of (fun st w' => st = (decide (100 < l.len), ()) ∧ w2 = w') (fun J hJ => ?_) ?_
  · simp only [Br_false]
    exact hJ _ _ ⟨by rw [show decide ((l.len : Int) > 100) = decide (100 < l.len) from decide_eq_decide.2 (by omega)], rfl⟩
  rintro _ _ ⟨rfl, rfl⟩
  dsimp only
  by_cases hbig : 100 < l.len
  · rw [decide_eq_true hbig]
    simp only [Br_true]
    exact hR (true, ()) _ ⟨rfl, O.kept⟩
  rw [decide_eq_false hbig]
  simp only [Br_false]
  refine ⟨fun n st w' => ∃ (i : Nat) (q : Bool) (s : TS) (H : Nat → Prop), st = (q, (i : Int), ()) ∧ n = os.length - i ∧ i ≤ os.length ∧ SI s ∧ Own w w' t H s, ⟨_, 0, false, _, H, rfl, rfl, by omega, SI.nil, O⟩, ?_⟩
  clear O
  rintro n _ w3 ⟨i, q, s, H, rfl, rfl, hi, hr, O⟩
  dsimp only
  by_cases hlt : i < os.length
  · rw [decide_eq_true (by omega)]
    simp only [Br_true]
    obtain ⟨o, ho⟩ : ∃ o, os[i]? = some o := ⟨_, List.getElem?_eq_getElem hlt⟩
    refine op_ok (rdc_keep h O.kept) ho ?_
    intro b w4 hb nb k4
    have hbO := O.not nb
    have O := O.keeps0 k4
    refine Jp_of (fun st w' => ∃ (q : Bool) (gs ds : Sl) (s : TS) (H : Nat → Prop) (g d : List Int), st = (q, gs, ds, ()) ∧ SI s ∧ Own w w' t H s ∧ SlC w' gs 1 (cU g) ∧ SlC w' ds 1 (cU d) ∧ g.length ≤ 192 ∧ d.length ≤ 192 ∧ Gone d s ∧ ∀ n ∈ g, ∀ y ∈ s.wait, y.n ≠ n) (fun J hJ => ?_) ?_
    · simp only [sxn, hb, sxl, Nat.reduceAdd]
      cases hdo : o.do_ == 0 with
      | true =>
        simp only [sxn, hb, sxl, Nat.reduceAdd]
        refine Cl.mono (Ask_ok O.at_ O.ok ⟨o.n, o.lo, o.hi, o.wr⟩) ?_
        rintro ⟨r6, g6, d6, e6, _⟩ w6 ⟨q1, q2, hl6⟩
        obtain ⟨H6, O6, _, _, hg6, hd6, _⟩ := O.left (askA_ok O.ok) hl6
        obtain ⟨t1, t2⟩ := ask_told (s := s) (x := ⟨o.n, o.lo, o.hi, o.wr⟩)
        exact hJ (q, g6, d6, ()) _ ⟨q, g6, d6, _, H6, _, _, rfl, hr.ask _, O6, hg6, hd6, ask_gr_len O.ok _, ask_dead_len O.ok _, t1, t2⟩
      | false =>
        simp only [sxn, hb, sxl, Nat.reduceAdd]
        refine Cl.mono (Release_ok O.at_ O.ok o.n) ?_
        rintro ⟨g6, d6, _⟩ w6 hl6
        obtain ⟨H6, O6, f6, k6, hg6, hd6, _⟩ := O.left (relA_ok O.ok) hl6
        dsimp only at hg6 hd6 ⊢
        have hb6 := k6.at hb hbO.2
        simp only [sxn, hb6, sxl, Nat.reduceAdd]
        obtain ⟨t0, t1, t2⟩ := rel_told (s := s) (n := o.n) (D := []) (fun d hd => by cases hd)
        refine Cl.mono (Holds_ok O6.at_ O6.ok o.n) ?_
        rintro ⟨r7, _⟩ w7 ⟨h7, _, k7⟩
        dsimp only at h7 ⊢
        have l7 := ls_len h7
        rw [gone_holds t0 (by simp)] at l7
        rw [l7, show decide (((0 : Nat) : Int) > 0) = false from rfl]
        simp only [Br_false]
        exact hJ (q, g6, d6, ()) _ ⟨q, g6, d6, _, H6, _, _, rfl, hr.rel o.n, O6.keeps0 k7, hg6.keeps k7 (by simp), hd6.keeps k7 (by simp), rel_gr_len O.ok _, rel_dead_len O.ok _, t1, t2⟩
    · clear O hr
      rintro _ w5 ⟨q5, gs, ds, s5, H5, g, d, rfl, hr, O, hg, hd, hgl, hdl, hgone, hgw⟩
      dsimp only
      have lg := cU_slen hg
      have ld := cU_slen hd
      refine rounds d.length fun i6 q6 w6 L6 hi6 k6 hL6 => ?_
      dsimp only
      have O6 := O.keeps0 k6
      by_cases hlt6 : i6 < d.length
      · rw [decide_eq_true (by omega)]
        simp only [Br_true]
        obtain ⟨m, hm⟩ : ∃ m, d[i6]? = some m := ⟨_, List.getElem?_eq_getElem hlt6⟩
        refine Ix_cu (hd.keeps k6 (by simp)) hm ?_
        refine Cl.mono (Holds_ok O6.at_ O6.ok m) ?_
        rintro ⟨r7, _⟩ w7 ⟨h7, _, k7⟩
        dsimp only at h7 ⊢
        have l7 := ls_len h7
        rw [gone_holds hgone (List.mem_of_getElem? hm)] at l7
        rw [l7, show decide (((0 : Nat) : Int) > 0) = false from rfl]
        simp only [Br_false]
        rw [w64p (by omega)]
        exact hL6 hlt6 _ _ k7
      · rw [decide_eq_false (by omega)]
        simp only [Br_false]
        refine Cl.mono (Waiting_ok O6.at_ O6.ok) ?_
        rintro ⟨r7, _⟩ w7 ⟨h7, _, k7⟩
        dsimp only at h7 ⊢
        have l7 := as_len h7
        have hwl : s5.wait.length ≤ 192 := by have := O.ok.few; omega
        have k57 := kp0 k6 k7
        refine rounds s5.wait.length fun i8 q8 w8 L8 hi8 k8 hL8 => ?_
        dsimp only
        have k58 := kp0 k57 k8
        have O8 := O.keeps0 k58
        by_cases hlt8 : i8 < s5.wait.length
        · rw [decide_eq_true (by omega)]
          simp only [Br_true]
          obtain ⟨x, hx⟩ : ∃ x, s5.wait[i8]? = some x := ⟨_, List.getElem?_eq_getElem hlt8⟩
          have hxm := List.mem_of_getElem? hx
          refine as_ld (h7.keeps k8 (by simp)) hx ?_
          refine bx4 fun c w9 hc nc k9 => ?_
          have k59 := kp0 k58 k9
          have hg9 := hg.keeps k59 (by simp)
          have hd9 := hd.keeps k59 (by simp)
          have hnil : SlC w9 ⟨none, 0, 0⟩ 1 (cU []) := SlC.nil _ 1
          refine App_of hnil hg9.rdc (by rw [cU_len]; omega) (cU_one g) (by kernel_rfl) (by dsimp only; omega) (by dsimp only; omega) ?_
          intro r10 w10 h10 l10 k10 b10
          have k910 : Keeps [] w9 w10 := k10.mono (by simp [blk])
          have f10 : ∀ y ∈ blk r10, w9.heap.size ≤ y := fun y hy => (b10 y hy).elim (fun h => by simp [blk] at h) id
          have l10' : r10.len = g.length := by rw [l10, lg]; simp
          refine App_of h10 (hd9.keeps k910 (by simp)).rdc (by rw [cU_len]; omega) (cU_one d) (by kernel_rfl) (by omega) (by omega) ?_
          intro r11 w11 h11 l11 k11 b11
          have k911 := kpx k910 k11 f10
          have h11' : SlC w11 r11 1 (cU (g ++ d)) := by
            rw [cU, List.map_append]
            exact h11
          have l11' : r11.len = (g ++ d).length := cU_slen h11'
          have hc11 := k911.at hc (by simp)
          have hne : ∀ m ∈ g ++ d, x.n ≠ m := fun m hm => (List.mem_append.1 hm).elim (fun h => hgw m h x hxm) (fun h => hgone m h x (mem_all.2 (.inr hxm)))
          rw [List.length_append] at l11'
          refine rounds (g ++ d).length fun i12 q12 w12 L12 hi12 k12 hL12 => ?_
          dsimp only
          rw [List.length_append] at hi12 hL12
          by_cases hlt12 : i12 < (g ++ d).length
          · have hlt12' := hlt12
            rw [List.length_append] at hlt12'
            rw [decide_eq_true (by omega)]
            simp only [Br_true]
            obtain ⟨m, hm⟩ : ∃ m, (g ++ d)[i12]? = some m := ⟨_, List.getElem?_eq_getElem hlt12⟩
            refine Ix_cu (h11'.keeps k12 (by simp)) hm ?_
            have hc12 := k12.at hc11 (by simp)
            simp only [sxn, hc12, sxl, Nat.reduceAdd]
            rw [show (x.n == m) = false from by simp; exact hne m (List.mem_of_getElem? hm)]
            simp only [Br_false]
            rw [w64p (by omega)]
            exact hL12 hlt12' _ _ (Keeps.refl _ _)
          · have hlt12' := hlt12
            rw [List.length_append] at hlt12'
            rw [decide_eq_false (by omega)]
            simp only [Br_false]
            rw [w64p (by omega)]
            exact hL8 hlt8 _ _ (kp0 (kp0 k9 k911) k12)
        · rw [decide_eq_false (by omega)]
          simp only [Br_false]
          refine Cl.mono (sound_ok O8.at_ hr) ?_
          rintro ⟨r9, _⟩ w9 ⟨e9, k9⟩
          dsimp only at e9
          subst e9
          simp only [Bool.not_true, Br_false]
          exact ⟨os.length - (i + 1), by omega, i + 1, q8, s5, H5, by rw [w64p (by omega)], rfl, by omega, hr, O8.keeps0 k9⟩
  · rw [decide_eq_false (by omega)]
    exact hR (true, ()) _ ⟨rfl, O.kept⟩
end Go.Proofs.Ytmppjgddemlmdaa
