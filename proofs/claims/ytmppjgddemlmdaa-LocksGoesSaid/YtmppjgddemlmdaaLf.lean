/- LocksElder: its walk. Conditions: none. -/
import Derived.Test.YtmppjgddemlmdaaPe
set_option linter.unusedVariables false
set_option linter.unusedSimpArgs false
namespace Go.Proofs.Ytmppjgddemlmdaa
open Go Go.Sx

/-- A list of numbers that has no 0, looked through. -/
theorem noZero_loop {w : World} {s : Sl} {d : List Int} (h : SlC w s 1 (cU d)) (h0 : (0 : Int) ∉ d) (hN : d.length ≤ 65000) {q : Bool} {F : Pr} {K : Bool × Int × Unit → Pr} (hK : ∀ st, K st w) :
    Lp (σ := Bool × Int × Unit) (fun L s34 => Br (decide ((s34.2.1 : Int) < ((s.len : Nat) : Int))) (Ix s s34.2.1 1 fun a35 => LdI .u64 a35 fun x36 => Br ((x36 : Int) == 0) F (L (s34.1, (w64 (s34.2.1 + 1)), ()))) (K s34)) (q, 0, ()) w := by
  have hl := cU_slen h
  refine ⟨fun n st w' => ∃ (i : Nat) (q : Bool), st = (q, (i : Int), ()) ∧ n = d.length - i ∧ i ≤ d.length ∧ w = w', ⟨_, 0, q, rfl, rfl, by omega, rfl⟩, ?_⟩
  rintro n _ _ ⟨i, q, rfl, rfl, hi, rfl⟩
  dsimp only
  by_cases hlt : i < d.length
  · rw [decide_eq_true (by omega)]
    simp only [Br_true]
    obtain ⟨m, hm⟩ : ∃ m, d[i]? = some m := ⟨_, List.getElem?_eq_getElem hlt⟩
    refine Ix_cu h hm ?_
    have hm0 : m ≠ 0 := fun e => h0 (by rw [← e]; exact List.mem_of_getElem? hm)
    rw [show (m == 0) = false from by simp [hm0]]
    simp only [Br_false]
    exact ⟨d.length - (i + 1), by omega, i + 1, q, by rw [w64p (by omega)], rfl, by omega, by trivial⟩
  · rw [decide_eq_false (by omega)]
    exact hK _

/-- The numbers that a call tells are few. -/
theorem setA_len {l : List Int} {s : TS} (ho : TOk s) (h : ∀ n ∈ l, ∃ y ∈ allA s, y.n = n) : (setA l).length ≤ 192 := by
  have h1 : (setA l).length ≤ (txnsA s).length := by
    have e : setA l = (txnsA s).filter (fun n => decide (n ∈ setA l)) := by
      refine rising_unique (setA_rising l) ((setA_rising _).filter _) fun n => ?_
      rw [List.mem_filter, decide_eq_true_iff]
      exact ⟨fun hn => ⟨txns_mem.2 (h n (setA_mem.1 hn)), hn⟩, fun hn => hn.2⟩
    rw [e]
    exact List.length_filter_le _ _
  exact Nat.le_trans h1 (txns_len ho)
/-- Who is told dead in a settling was there. -/
theorem settle_dead {k : Nat} {s : TS} {d0 : List Int} (hk : s.wait.length ≤ k) {P : Int → Prop} (h0 : ∀ n ∈ d0, P n) (hP : ∀ y ∈ allA s, P y.n) : ∀ n ∈ (settleA k s [] d0).2.2, P n := by
  have := (settle_ind (Q := fun s' _ d => (∀ y ∈ allA s', P y.n) ∧ ∀ n ∈ d, P n) ?_ (k := k) (g := []) (d := d0) ⟨hP, h0⟩ hk).1
  · exact this.2
  · rintro s' g d x ⟨h1, h2⟩ hx hf
    refine ⟨fun y hy => h1 y (pick_all hx hy), fun n hn => ?_⟩
    rcases List.mem_append.1 hn with hn | hn
    · exact h2 n hn
    · obtain ⟨_, y, hy, rfl⟩ := pick_dead hn
      exact h1 y (mem_all.2 (.inr hy))
theorem rel_dead {s : TS} {n : Int} : ∀ m ∈ (relA n s).1.2, ∃ y ∈ allA s, y.n = m := fun m hm =>
  settle_dead (P := fun m => ∃ y ∈ allA s, y.n = m) (Nat.le_refl _) (by simp) (fun y hy => ⟨y, drop_all hy, rfl⟩) m (setA_mem.1 hm)
theorem rel_dead_len {s : TS} (ho : TOk s) (n : Int) : (relA n s).1.2.length ≤ 192 := by
  have : (relA n s).1.2 = setA (settleA (dropA n s).wait.length (dropA n s) [] []).2.2 := rfl
  rw [this]
  exact setA_len ho (fun m hm => rel_dead m (setA_mem.2 hm))
theorem ask_dead_len {s : TS} (ho : TOk s) (x : Ak) : (askA x s).1.2.2.1.length ≤ 192 := by
  unfold askA
  split
  · simp
  split
  · simp
  split
  · simp
  split
  · simp
  rename_i hf
  split
  · have ho' : TOk ⟨s.held ++ [x], s.wait⟩ := ⟨ho.wt, by show (s.held ++ [x]).length + s.wait.length ≤ 192; rw [List.length_append, List.length_singleton]; omega⟩
    refine setA_len ho' (settle_dead (P := fun m => ∃ y ∈ allA ⟨s.held ++ [x], s.wait⟩, y.n = m) (Nat.le_refl _) (fun m hm => ?_) (fun y hy => ?_))
    · obtain ⟨y, h1, h2, _⟩ := killed_mem.1 hm
      exact ⟨y, mem_all.2 (.inr h1), h2⟩
    · exact ⟨y, (grant_all hy).elim (fun h => (mem_all.1 h).elim (fun h => mem_all.2 (.inl (List.mem_append.2 (.inl h)))) (fun h => mem_all.2 (.inr h))) (fun h => by rw [h]; exact mem_all.2 (.inl (List.mem_append.2 (.inr (List.mem_singleton.2 rfl))))), rfl⟩
  split
  · simp
  · simp

theorem LocksElder_ok {w : World} {l : Sl} {os : List Op} (h : RdC l.p (l.len * 6) (os.flatMap encO) w) (hq : ∀ o ∈ os, OpQ o) (lo hi : ByteArray) (wr : Bool) :
    Cl Try.prog i_sumpterlaw16_LocksElder [.slice l.p l.len l.cap, .agg #[.string lo, .string hi, .bool wr]] false [.sc .b] (fun r w' => r.1 = true ∧ Keeps [] w w') w := by
  refine Cl_gen fun R hR => ?_
  have hol := ops_len h
  apply sumpterlaw16_LocksElder_call
  unfold sumpterlaw16_LocksElder
  refine New_bx fun a w0 ha na k0 => ?_
  have h := rdc_keep h k0
  have hR : ∀ (r : TR [.sc .b]) (w' : World), r.1 = true ∧ Keeps [] w0 w' → R r w' := fun r w' h => hR r w' ⟨h.1, kp0 k0 h.2⟩
  refine Cl.mono start_ok ?_
  rintro ⟨r1, _⟩ w1 ⟨e1, hs⟩
  dsimp only at e1
  subst e1
  refine Cl.mono hs ?_
  rintro ⟨_, _⟩ w2 ⟨t, H, rfl, O⟩
  dsimp only
  rw [show Option.isNone (some (⟨t, 0, none⟩ : Addr)) = false from rfl]
  refine Jp_of (fun st w' => st = (decide (60 < l.len) || !(okR lo hi), ()) ∧ Keeps [] w2 w') (fun J hJ => ?_) ?_
  · simp only [Br_false]
    rw [show decide (((l.len : Nat) : Int) > 60) = decide (60 < l.len) from decide_eq_decide.2 (by omega)]
    cases hb : decide (60 < l.len) with
    | true => exact hJ _ _ ⟨by rw [hb]; rfl, Keeps.refl _ _⟩
    | false =>
      have ha2 := O.kept.at ha (by simp)
      simp only [sxn, ha2, sxl, Nat.reduceAdd]
      refine Cl.mono (Check_ok _ _ _) ?_
      rintro ⟨r, _⟩ w3 ⟨e, k3⟩
      dsimp only at e
      subst e
      simp only [ok1]
      exact hJ _ _ ⟨by rw [hb]; rfl, k3⟩
  rintro _ w3 ⟨rfl, k3⟩
  dsimp only
  have O := O.keeps0 k3
  cases hbig : decide (60 < l.len) || !(okR lo hi) with
  | true =>
    simp only [Br_true]
    exact hR (true, ()) _ ⟨rfl, O.kept⟩
  | false =>
  simp only [Br_false]
  rw [Bool.or_eq_false_iff] at hbig
  have hl60 : l.len ≤ 60 := by have := of_decide_eq_false hbig.1; omega
  have hok : okR lo hi = true := by simpa using hbig.2
  refine ⟨fun n st w' => ∃ (i : Nat) (s : TS) (H : Nat → Prop), st = ((i : Int), ()) ∧ n = os.length - i ∧ i ≤ os.length ∧ SI s ∧ (∀ y ∈ allA s, 0 < y.n) ∧ sizeA s ≤ i ∧ Own w0 w' t H s, ⟨_, 0, _, H, rfl, rfl, by omega, SI.nil, by simp [allA], Nat.le_refl _, O⟩, ?_⟩
  clear O
  rintro n _ w4 ⟨i, s, H, rfl, rfl, hi4, hr, hpos, hsz, O⟩
  dsimp only
  by_cases hlt : i < os.length
  · rw [decide_eq_true (by omega)]
    simp only [Br_true]
    obtain ⟨o, ho⟩ : ∃ o, os[i]? = some o := ⟨_, List.getElem?_eq_getElem hlt⟩
    refine Jp_of (fun st w' => ∃ (s : TS) (H : Nat → Prop), SI s ∧ (∀ y ∈ allA s, 0 < y.n) ∧ sizeA s ≤ i + 1 ∧ Own w0 w' t H s) (fun J hJ => ?_) ?_
    rotate_left
    · rintro _ w5 ⟨s', H', hr', hp', hs', O'⟩
      exact ⟨os.length - (i + 1), by omega, i + 1, s', H', by rw [w64p (by omega)], rfl, by omega, hr', hp', hs', O'⟩
    refine op_ok (rdc_keep h O.kept) ho ?_
    intro b w5 hb nb k5
    have O := O.keeps0 k5
    simp only [sxn, hb, sxl, Nat.reduceAdd]
    have ho0 : 0 ≤ o.n := hq o (List.mem_of_getElem? ho)
    cases hz : o.n == 0 with
    | true => exact hJ () _ ⟨s, H, hr, hpos, by omega, O⟩
    | false =>
    have hon : o.n ≠ 0 := by simpa using hz
    simp only [sxn, hb, sxl, Nat.reduceAdd]
    cases hdo : o.do_ == 0 with
    | true =>
      simp only [sxn, hb, sxl, Nat.reduceAdd]
      refine Cl.mono (Ask_ok O.at_ O.ok ⟨o.n, o.lo, o.hi, o.wr⟩) ?_
      rintro ⟨r6, g6, d6, e6, _⟩ w6 ⟨q1, q2, hl6⟩
      obtain ⟨H6, O6, _⟩ := O.left (askA_ok O.ok) hl6
      have := ask_size ⟨o.n, o.lo, o.hi, o.wr⟩ s
      exact hJ () _ ⟨_, H6, hr.ask _, fun y hy => (ask_all hy).elim (hpos y) (fun e => by rw [e]; show 0 < o.n; omega), by omega, O6⟩
    | false =>
      simp only [sxn, hb, sxl, Nat.reduceAdd]
      refine Cl.mono (Release_ok O.at_ O.ok o.n) ?_
      rintro ⟨r6, r6b, _⟩ w6 hl6
      obtain ⟨H6, O6, _⟩ := O.left (relA_ok O.ok) hl6
      have := rel_size o.n s
      exact hJ () _ ⟨_, H6, hr.rel o.n, fun y hy => hpos y (rel_all hy).1, by omega, O6⟩
  · rw [decide_eq_false (by omega)]
    simp only [Br_false]
    have ha4 := O.kept.at ha (by simp)
    simp only [sxn, ha4, sxl, Nat.reduceAdd]
    obtain ⟨el1, el2, el3, el4⟩ := elder_ask (x := ⟨0, lo, hi, wr⟩) hr hpos (by omega) rfl hok
    refine Cl.mono (Ask_ok O.at_ O.ok ⟨0, lo, hi, wr⟩) ?_
    rintro ⟨r5, g5, d5, e5, _⟩ w5 ⟨q1, q2, hl5⟩
    dsimp only at q1 q2
    obtain ⟨H5, O5, _, _, _, hd5, _⟩ := O.left (askA_ok O.ok) hl5
    have hdl := ask_dead_len O.ok ⟨0, lo, hi, wr⟩
    dsimp only at hd5 ⊢
    generalize hA : askA ⟨0, lo, hi, wr⟩ s = A at q1 q2 hd5 el1 el2 el3 el4 hdl O5
    obtain ⟨⟨A1, A2, A3, A4⟩, s5⟩ := A
    dsimp only at q1 q2 hd5 el1 el2 el3 el4 hdl O5
    subst q1 q2
    refine Jp_of (fun st w' => st = (false, ()) ∧ w5 = w') (fun J hJ => ?_) ?_
    · rw [show (e5 != 0) = false from by rw [el2]; rfl]
      simp only [Br_false]
      rcases el1 with e | e
      · rw [show (r5 != 1) = false from by rw [e]; rfl]
        exact hJ _ _ ⟨rfl, rfl⟩
      · rw [show (r5 != 1) = true from by rw [e]; rfl, show (r5 != 2) = false from by rw [e]; rfl]
        exact hJ _ _ ⟨rfl, rfl⟩
    rintro _ _ ⟨rfl, rfl⟩
    simp only [Br_false]
    refine noZero_loop hd5 el3 (by omega) ?_
    rintro ⟨q, _, _⟩
    dsimp only
    refine Cl.mono (Txns_ok O5.at_ O5.ok) ?_
    rintro ⟨r6, _⟩ w6 ⟨h6, hb6, k6⟩
    dsimp only at h6 hb6 ⊢
    have O6 := O5.keeps0 k6
    have hl6 := cU_slen h6
    have htl := txns_len O5.ok
    have hin : ∀ y ∈ allA s5, y.n ∈ txnsA s5 := fun y hy => txns_mem.2 ⟨y, hy, rfl⟩
    generalize txnsA s5 = T at h6 hl6 htl hin
    have hbH : ∀ y ∈ blk r6, ¬ H5 y := fun y hy hH => by have := hb6 y hy; have := O5.at_.bl y hH; omega
    refine ⟨fun n st w' => ∃ (i : Nat) (q : Bool) (s : TS) (H : Nat → Prop), st = (q, (i : Int), ()) ∧ n = T.length - i ∧ i ≤ T.length ∧ EI s ∧ (∀ y ∈ allA s, y.n = 0 ∨ y.n ∈ T.drop i) ∧ Own w0 w' t H s ∧ SlC w' r6 1 (cU T) ∧ (∀ y ∈ blk r6, ¬ H y), ⟨_, 0, q, s5, H5, rfl, rfl, by omega, el4, fun y hy => .inr (hin y hy), O6, h6, hbH⟩, ?_⟩
    rintro n _ w7 ⟨i7, q7, s7, H7, rfl, rfl, hi7, hE, hT, O7, h7, hb7⟩
    dsimp only
    by_cases hlt7 : i7 < T.length
    · rw [decide_eq_true (by omega)]
      simp only [Br_true]
      obtain ⟨m, hm⟩ : ∃ m, T[i7]? = some m := ⟨_, List.getElem?_eq_getElem hlt7⟩
      have hdrop : T.drop i7 = m :: T.drop (i7 + 1) := by
        rw [List.drop_eq_getElem_cons hlt7, (List.getElem?_eq_some_iff.1 hm).2]
      refine Jp_of (fun st w' => ∃ (q : Bool) (s : TS) (H : Nat → Prop), st = (q, ()) ∧ EI s ∧ (∀ y ∈ allA s, y.n = 0 ∨ y.n ∈ T.drop (i7 + 1)) ∧ Own w0 w' t H s ∧ SlC w' r6 1 (cU T) ∧ (∀ y ∈ blk r6, ¬ H y)) (fun J hJ => ?_) ?_
      rotate_left
      · rintro _ w8 ⟨q8, s8, H8, rfl, g1, g2, g3, g4, g5⟩
        exact ⟨T.length - (i7 + 1), by omega, i7 + 1, q8, s8, H8, by rw [w64p (by omega)], rfl, by omega, g1, g2, g3, g4, g5⟩
      refine Ix_cu h7 hm ?_
      by_cases hm0 : m = 0
      · rw [show (m == 0) = true from by simp [hm0]]
        simp only [Br_true]
        refine hJ (q7, ()) _ ⟨q7, s7, H7, rfl, hE, fun y hy => ?_, O7, h7, hb7⟩
        rcases hT y hy with h' | h'
        · exact .inl h'
        · rw [hdrop, List.mem_cons] at h'
          exact h'.elim (fun e => .inl (by rw [e, hm0])) .inr
      · rw [show (m == 0) = false from by simp [hm0]]
        simp only [Br_false]
        refine Cl.mono (Release_ok O7.at_ O7.ok m) ?_
        rintro ⟨r8, r8b, _⟩ w8 hl8
        obtain ⟨H8, O8, f8, k8, _, hd8, _⟩ := O7.left (relA_ok O7.ok) hl8
        dsimp only at hd8 ⊢
        obtain ⟨hE8, hz8⟩ := hE.rel hm0
        refine noZero_loop hd8 hz8 (by have := rel_dead_len O7.ok m; omega) ?_
        rintro ⟨q8, _, _⟩
        dsimp only
        refine hJ (q8, ()) _ ⟨q8, _, H8, rfl, hE8, fun y hy => ?_, O8, h7.keepsP k8 hb7, fun y hy => nH_step f8 (h7.lt y hy) (hb7 y hy)⟩
        obtain ⟨h', hne⟩ := rel_all hy
        rcases hT y h' with h'' | h''
        · exact .inl h''
        · rw [hdrop, List.mem_cons] at h''
          exact h''.elim (fun e => absurd e hne) .inr
    · rw [decide_eq_false (by omega)]
      simp only [Br_false, Br_true]
      rw [List.drop_of_length_le (by omega)] at hT
      have hend := hE.end_ (fun y hy => (hT y hy).elim id (fun h => by cases h))
      refine Cl.mono (Holds_ok O7.at_ O7.ok 0) ?_
      rintro ⟨r8, _⟩ w8 ⟨h8, hb8, k8⟩
      dsimp only at h8 ⊢
      have l8 := ls_len h8
      rw [show ((((r8.len : Nat) : Int)) == 1) = true from by rw [l8, hend]; rfl]
      exact hR (true, ()) _ ⟨rfl, (O7.keeps0 k8).kept⟩
end Go.Proofs.Ytmppjgddemlmdaa
