/- LocksEnd: its walk. Conditions: none. -/
import Derived.Test.YtmppjgddemlmdaaPl
set_option linter.unusedVariables false
set_option linter.unusedSimpArgs false
namespace Go.Proofs.Ytmppjgddemlmdaa
open Go Go.Sx

theorem SI.nil : SI ⟨[], []⟩ := ⟨⟨⟨List.Pairwise.nil, by simp⟩, by simp, by simp⟩, by simp⟩
theorem txns_mem {s : TS} {n : Int} : n ∈ txnsA s ↔ ∃ y ∈ allA s, y.n = n := by
  unfold txnsA
  rw [setA_mem, List.mem_map]
  rfl
theorem txns_len {s : TS} (ho : TOk s) : (txnsA s).length ≤ 192 := by
  have h1 : ∀ (l acc : List Int), (l.foldl addA acc).length ≤ acc.length + l.length := by
    intro l
    induction l with
    | nil => intro acc; exact Nat.le_refl _
    | cons n l ih =>
      intro acc
      have h2 : ∀ (l : List Int), (addA l n).length ≤ l.length + 1 := by
        intro l
        induction l with
        | nil => exact Nat.le_refl _
        | cons x t ih2 =>
          unfold addA
          split
          · rw [List.length_cons, List.length_cons]; omega
          · split
            · exact Nat.le_succ _
            · exact Nat.le_refl _
      have := ih (addA acc n)
      have := h2 acc
      rw [List.foldl_cons, List.length_cons]
      omega
  have := h1 ((s.held ++ s.wait).map (·.n)) []
  have hf := ho.few
  unfold txnsA setA
  rw [List.length_map, List.length_append] at this
  simp only [List.length_nil] at this
  omega
theorem holds_ne {s : TS} {n : Int} : 0 < (holdsA n s).length ↔ ∃ y ∈ s.held, y.n = n := by
  unfold holdsA
  rw [List.length_pos_iff_exists_mem]
  constructor
  · rintro ⟨y, hy⟩
    obtain ⟨h1, h2⟩ := List.mem_filter.1 hy
    exact ⟨y, h1, by simpa using h2⟩
  · rintro ⟨y, h1, rfl⟩
    exact ⟨y, List.mem_filter.2 ⟨h1, by simp⟩⟩

/-- Nobody holds, nobody waits. -/
theorem SI.end_ {s : TS} (h : SI s) (hn : (txnsA s).filter (fun n => decide (0 < (holdsA n s).length)) = []) : s = ⟨[], []⟩ := by
  have hh : s.held = [] := by
    refine List.eq_nil_iff_forall_not_mem.2 fun y hy => ?_
    refine List.filter_eq_nil_iff.1 hn y.n (txns_mem.2 ⟨y, mem_all.2 (.inl hy), rfl⟩) ?_
    exact decide_eq_true (holds_ne.2 ⟨y, hy, rfl⟩)
  have hw : s.wait = [] := by
    refine List.eq_nil_iff_forall_not_mem.2 fun y hy => ?_
    obtain ⟨z, hz, _⟩ := h.some_ y hy
    rw [hh] at hz
    cases hz
  cases s
  simp only at hh hw
  subst hh hw
  rfl

set_option maxRecDepth 8000 in
theorem LocksEnd_ok {w : World} {l : Sl} {os : List Op} (h : RdC l.p (l.len * 6) (os.flatMap encO) w) (turn : Int) :
    Cl Try.prog i_sumpterlaw16_LocksEnd [.slice l.p l.len l.cap, .int .i64 turn] false [.sc .b] (fun r w' => r.1 = true ∧ Keeps [] w w') w := by
  refine Cl_gen fun R hR => ?_
  have hol := ops_len h
  apply sumpterlaw16_LocksEnd_call
  unfold sumpterlaw16_LocksEnd
  refine Cl.mono start_ok ?_
  rintro ⟨r1, _⟩ w1 ⟨e1, hs⟩
  dsimp only at e1
  subst e1
  refine Cl.mono hs ?_
  rintro ⟨_, _⟩ w2 ⟨t, H, rfl, O⟩
  dsimp only
  rw [show Option.isNone (some (⟨t, 0, none⟩ : Addr)) = false from rfl]
  refine Jp_of (fun st w' => st = (decide (200 < l.len), ()) ∧ w2 = w') (fun J hJ => ?_) ?_
  · simp only [Br_false]
    exact hJ _ _ ⟨by rw [show decide ((l.len : Int) > 200) = decide (200 < l.len) from decide_eq_decide.2 (by omega)], rfl⟩
  rintro _ _ ⟨rfl, rfl⟩
  dsimp only
  by_cases hbig : 200 < l.len
  · rw [decide_eq_true hbig]
    simp only [Br_true]
    exact hR (true, ()) _ ⟨rfl, O.kept⟩
  rw [decide_eq_false hbig]
  simp only [Br_false]
  refine ⟨fun n st w' => ∃ (i : Nat) (s : TS) (H : Nat → Prop), st = ((i : Int), ()) ∧ n = os.length - i ∧ i ≤ os.length ∧ SI s ∧ Own w w' t H s, ⟨_, 0, _, H, rfl, rfl, by omega, SI.nil, O⟩, ?_⟩
  rintro n _ w3 ⟨i, s, H, rfl, rfl, hi, hr, O⟩
  dsimp only
  by_cases hlt : i < os.length
  · rw [decide_eq_true (by omega)]
    simp only [Br_true]
    obtain ⟨o, ho⟩ : ∃ o, os[i]? = some o := ⟨_, List.getElem?_eq_getElem hlt⟩
    refine Jp_of (fun st w' => ∃ (s : TS) (H : Nat → Prop), SI s ∧ Own w w' t H s) (fun J hJ => ?_) ?_
    rotate_left
    · rintro _ w4 ⟨s', H', hr', O'⟩
      exact ⟨os.length - (i + 1), by omega, i + 1, s', H', by rw [w64p (by omega)], rfl, by omega, hr', O'⟩
    refine op_ok (rdc_keep h O.kept) ho ?_
    intro b w4 hb nb k4
    have O := O.keeps0 k4
    simp only [sxn, hb, sxl, Nat.reduceAdd]
    cases hdo : o.do_ == 0 with
    | true =>
      simp only [sxn, hb, sxl, Nat.reduceAdd]
      refine Cl.mono (Ask_ok O.at_ O.ok ⟨o.n, o.lo, o.hi, o.wr⟩) ?_
      rintro ⟨r6, g6, d6, e6, _⟩ w6 ⟨q1, q2, hl6⟩
      obtain ⟨H6, O6, _⟩ := O.left (askA_ok O.ok) hl6
      exact hJ () _ ⟨_, H6, hr.ask _, O6⟩
    | false =>
      simp only [sxn, hb, sxl, Nat.reduceAdd]
      refine Cl.mono (Release_ok O.at_ O.ok o.n) ?_
      rintro ⟨r6, r6b, _⟩ w6 hl6
      obtain ⟨H6, O6, _⟩ := O.left (relA_ok O.ok) hl6
      exact hJ () _ ⟨_, H6, hr.rel o.n, O6⟩
  · rw [decide_eq_false (by omega)]
    simp only [Br_false]
    have hsz : sizeA s ≤ 192 := O.ok.few
    refine ⟨fun n st w' => ∃ (j : Nat) (q : Bool) (s : TS) (H : Nat → Prop), st = (q, (j : Int), ()) ∧ n + j = 200 ∧ sizeA s + j ≤ 192 ∧ SI s ∧ Own w w' t H s, ⟨200, 0, false, s, H, rfl, by omega, hsz, hr, O⟩, ?_⟩
    clear hsz O hr
    rintro n _ w4 ⟨j, q, s, H, rfl, hnj, hj, hr, O⟩
    dsimp only
    rw [decide_eq_true (by omega)]
    simp only [Br_true]
    refine Cl.mono (Txns_ok O.at_ O.ok) ?_
    rintro ⟨r5, _⟩ w5 ⟨h5, hb5, k5⟩
    dsimp only at h5 hb5 ⊢
    have O5 := O.keeps0 k5
    have hl5 := cU_slen h5
    have htl := txns_len O.ok
    generalize hT : txnsA s = T at h5 hl5 htl
    refine ⟨fun n st w' => ∃ (i : Nat) (r : Sl), st = (r, (i : Int), ()) ∧ n = T.length - i ∧ i ≤ T.length ∧ SlC w' r 1 (cU ((T.take i).filter (fun n => decide (0 < (holdsA n s).length)))) ∧ (∀ y ∈ blk r, w5.heap.size ≤ y) ∧ Keeps [] w5 w', ⟨_, 0, ⟨none, 0, 0⟩, rfl, rfl, by omega, SlC.nil _ 1, by simp [blk], Keeps.refl _ _⟩, ?_⟩
    rintro n6 _ w6 ⟨i, r, rfl, rfl, hi6, h6, hb6, k6⟩
    dsimp only
    have O6 := O5.keeps0 k6
    have hl6 := cU_slen h6
    have hfl := List.length_filter_le (fun n => decide (0 < (holdsA n s).length)) (T.take i)
    rw [List.length_take] at hfl
    by_cases hlt6 : i < T.length
    · rw [decide_eq_true (by omega)]
      simp only [Br_true]
      obtain ⟨m, hm⟩ : ∃ m, T[i]? = some m := ⟨_, List.getElem?_eq_getElem hlt6⟩
      have hsucc : (T.take (i + 1)).filter (fun n => decide (0 < (holdsA n s).length)) = (T.take i).filter (fun n => decide (0 < (holdsA n s).length)) ++ (if 0 < (holdsA m s).length then [m] else []) := by
        rw [List.take_add_one, hm, List.filter_append]
        congr 1
        by_cases hc : 0 < (holdsA m s).length <;> simp [hc]
      refine Jp_of (fun st w' => ∃ r', st = (r', ()) ∧ SlC w' r' 1 (cU ((T.take (i + 1)).filter (fun n => decide (0 < (holdsA n s).length)))) ∧ (∀ y ∈ blk r', w5.heap.size ≤ y) ∧ Keeps [] w5 w') (fun J hJ => ?_) ?_
      rotate_left
      · rintro _ w7 ⟨r', rfl, h7, hb7, k7⟩
        exact ⟨T.length - (i + 1), by omega, i + 1, r', by rw [w64p (by omega)], rfl, by omega, h7, hb7, k7⟩
      refine Ix_cu (h5.keeps k6 (by simp)) hm ?_
      refine Cl.mono (Holds_ok O6.at_ O6.ok m) ?_
      rintro ⟨r7, _⟩ w7 ⟨h7, hb7, k7⟩
      dsimp only at h7 hb7 ⊢
      have l7 := ls_len h7
      have k57 := kp0 k6 k7
      have h67 := h6.keeps k7 (by simp)
      rw [show decide ((((r7.len : Nat) : Int)) > 0) = decide (0 < (holdsA m s).length) from decide_eq_decide.2 (by rw [l7]; omega)]
      by_cases hc : 0 < (holdsA m s).length
      · rw [decide_eq_true hc]
        simp only [Br_true]
        refine NewApp_of (bytes := 8) (new := [.int .u64 m]) h67 (by simp) (by simp [Value.oneCell']) (by kernel_rfl) (by omega) (by omega) ?_
        intro r8 w8 h8 _ k8 hb8
        refine hJ (r8, ()) _ ⟨r8, rfl, ?_, fun z hz => ?_, kpx k57 k8 hb6⟩
        · rw [hsucc, if_pos hc, cU, List.map_append]
          exact h8
        · rcases hb8 z hz with h' | h'
          · exact hb6 z h'
          · have := k57.size; omega
      · rw [decide_eq_false hc]
        refine hJ (r, ()) _ ⟨r, rfl, ?_, hb6, k57⟩
        rw [hsucc, if_neg hc, List.append_nil]
        exact h67
    · rw [decide_eq_false (by omega)]
      simp only [Br_false]
      rw [List.take_of_length_le (by omega)] at h6 hl6
      generalize hF : T.filter (fun n => decide (0 < (holdsA n s).length)) = F at h6 hl6
      have hFl : F.length ≤ 192 := by rw [← hF]; exact Nat.le_trans (List.length_filter_le _ _) htl
      by_cases hF0 : F = []
      · have hend := hr.end_ (by rw [hT, hF, hF0])
        rw [show ((((r.len : Nat) : Int)) == 0) = true from by rw [hl6, hF0]; rfl]
        simp only [Br_true]
        refine Cl.mono (Txns_ok O6.at_ O6.ok) ?_
        rintro ⟨r7, _⟩ w7 ⟨h7, hb7, k7⟩
        dsimp only at h7 ⊢
        have l7 := cU_slen h7
        rw [show ((((r7.len : Nat) : Int)) == 0) = true from by rw [l7, hend]; rfl]
        simp only [Br_true]
        have O7 := O6.keeps0 k7
        refine Cl.mono (Waiting_ok O7.at_ O7.ok) ?_
        rintro ⟨r8, _⟩ w8 ⟨h8, hb8, k8⟩
        dsimp only at h8 ⊢
        have l8 := as_len h8
        rw [show ((((r8.len : Nat) : Int)) == 0) = true from by rw [l8, hend]; rfl]
        exact hR (true, ()) _ ⟨rfl, (O7.keeps0 k8).kept⟩
      · have hF1 : 0 < F.length := List.length_pos_iff.2 hF0
        rw [show ((((r.len : Nat) : Int)) == 0) = false from by rw [hl6]; simp; exact hF0]
        simp only [Br_false]
        refine ⟨by omega, by omega, ?_⟩
        obtain ⟨k, hk, hke⟩ := wrapMod turn r.len (by omega) (by omega)
        rw [hke]
        obtain ⟨m, hm⟩ : ∃ m, F[k]? = some m := ⟨_, List.getElem?_eq_getElem (by omega)⟩
        refine Ix_cu h6 hm ?_
        have hmF : m ∈ F := List.mem_of_getElem? hm
        rw [← hF] at hmF
        obtain ⟨y, hy, hyn⟩ := holds_ne.1 (of_decide_eq_true (List.mem_filter.1 hmF).2)
        refine Cl.mono (Release_ok O6.at_ O6.ok m) ?_
        rintro ⟨r7, r7b, _⟩ w7 hl7
        obtain ⟨H7, O7, _⟩ := O6.left (relA_ok O6.ok) hl7
        have hless := rel_less hy hyn
        exact ⟨n - 1, by omega, j + 1, q, _, H7, by rw [w64p (by omega)], by omega, by omega, hr.rel m, O7⟩
end Go.Proofs.Ytmppjgddemlmdaa
