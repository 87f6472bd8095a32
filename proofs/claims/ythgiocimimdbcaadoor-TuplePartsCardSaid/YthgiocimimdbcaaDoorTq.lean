/- The parts of a key. Conditions: none. -/
import Derived.Test.YthgiocimimdbcaaDoorTk
set_option linter.unusedVariables false
set_option linter.unusedSimpArgs false
namespace Go.Proofs.YthgiocimimdbcaaDoor
open Go Go.Sx Go.RowKit

theorem ck_len {k : Bs} (h : ck k = 0) : ¬ (k.length < 1 ∨ 12 < k.length) := by
  unfold ck at h
  split at h
  · simp at h
  · assumption
theorem put_set (w : World) (b : Nat) (o : Obj) : w.putObj b o = setObjW w b o := rfl
theorem pt_ck {k : Bs} (h : ck k ≠ 0) : pt k = ([], 20) ∧ ck k = 20 := by
  unfold ck at h ⊢
  split at h
  · rename_i hk; exact ⟨by unfold pt; rw [if_pos hk], by rw [if_pos hk]⟩
  · exact absurd rfl h
theorem pt_none {k : Bs} (hc : ck k = 0) (h : ∀ l, k = ecs l → 4 < l.length) : pt k = ([], 11) := by
  unfold pt
  rw [if_neg (ck_len hc)]
  cases hd : dec 12 k with
  | none => rfl
  | some l =>
    simp only
    have := h l (dec_eq hd)
    rw [if_neg (by omega)]
theorem pt_good {l : List Bs} (hc : ck (ecs l) = 0) (h4 : l.length ≤ 4) : pt (ecs l) = (l, 0) := by
  have := ck_len hc
  unfold pt
  rw [if_neg this, dec_ecs (by omega)]
  simp only
  rw [if_pos h4]
theorem pt_broken {k r : Bs} {pre : List Bs} (hc : ck k = 0) (hk : k = ecs pre ++ r) (hr : r ≠ []) (ht : tok r = none) : pt k = ([], 11) := by
  refine pt_none hc fun l hl => ?_
  obtain ⟨l', rfl, h2⟩ := ecs_split (hl.symm.trans hk)
  cases l' with
  | nil => exact absurd h2 hr
  | cons p l' =>
    rw [h2, ecs_cons, tok_ec] at ht
    cases ht
theorem pt_many {k r p : Bs} {pre : List Bs} (hc : ck k = 0) (hk : k = ecs pre ++ (ec p ++ r)) (h4 : pre.length = 4) : pt k = ([], 11) := by
  refine pt_none hc fun l hl => ?_
  obtain ⟨l', rfl, h2⟩ := ecs_split (hl.symm.trans hk)
  cases l' with
  | nil => exact absurd h2 (ec_ne p r)
  | cons q l' => simp; omega

theorem Parts_ok {w : World} {m : Int} (k : Bs) (g : GM m w) :
    Cl Tryd.prog 9 [.string (BA k)] true [.sc .sl, .sc (.i .i64)] (fun r w' => SlC w' r.1 1 (cT (pt k).1) ∧ r.2.1 = (pt k).2 ∧ (∀ x ∈ blk r.1, w.heap.size ≤ x) ∧ Keeps [] w w') w := by
  refine Cl_gen fun R hR => ?_
  apply tuple_Parts_call
  unfold tuple_Parts
  obtain ⟨n, hn⟩ : ∃ n, w.heap.size = n := ⟨_, rfl⟩
  simp only [sx, hn]
  generalize hw2 : (w.alloc (.cells #[.slice none 0 0] 23)).alloc (.cells #[.int .i64 0] 24) = w2
  have hk2 : Keeps [] w w2 := by subst hw2; exact ((Keeps.refl [] w).alloc _).alloc _
  have hz2 : w2.heap.size = n + 2 := by subst hw2; simp [hn]
  have ha2 : w2.heap[n]? = some (.cells #[.slice none 0 0] 23) := by subst hw2 hn; rw [hp_alloc_old _ _ (by simp)]; exact hp_alloc_new _ _
  have hb2 : w2.heap[n + 1]? = some (.cells #[.int .i64 0] 24) := by subst hw2 hn; exact hp_alloc_eq _ _ (by simp)
  clear hw2
  refine Cl.mono (CheckKey_ok k) ?_
  rintro r3 _ ⟨hr3, rfl⟩
  rw [hr3]
  refine Br_of (fun hb => ?_) (fun hb => ?_)
  · have hb : ck k ≠ 0 := by simpa using hb
    obtain ⟨e1, e2⟩ := pt_ck hb
    simp (disch := ((try simp only [sx]); first | done | omega)) only [sx, sxc, sxl, ha2, hb2, Nat.zero_add, Nat.reduceAdd, Nat.reduceLT, true_and]
    refine hR _ _ ⟨?_, by rw [e1, e2], by simp [blk_zero], (hk2.setObjW (.inr (by omega)) _).setObjW (.inr (by omega)) _⟩
    rw [e1]
    exact SlC.nil _ _
  have hb : ck k = 0 := by simpa using hb
  simp only [sx, hz2]
  generalize hw3 : w2.alloc (.cells #[.slice none 0 0] 23) = w3
  have hk3 : Keeps [] w2 w3 := by subst hw3; exact (Keeps.refl [] w2).alloc _
  have hz3 : w3.heap.size = n + 3 := by subst hw3; simp [hz2]
  have hc3 : w3.heap[n + 2]? = some (.cells #[.slice none 0 0] 23) := by subst hw3; exact hp_alloc_eq _ _ hz2.symm
  have ha3 := hk3.at ha2 (by simp)
  have hb3 := hk3.at hb2 (by simp)
  clear hw3
  apply tuple_pieces_call
  unfold tuple_pieces
  simp only [sx, hz3]
  generalize hw4 : w3.alloc (.cells #[.string (BA k)] 9) = w4
  have hk4 : Keeps [] w3 w4 := by subst hw4; exact (Keeps.refl [] w3).alloc _
  have hz4 : w4.heap.size = n + 4 := by subst hw4; simp [hz3]
  have hd4 : w4.heap[n + 3]? = some (.cells #[.string (BA k)] 9) := by subst hw4; exact hp_alloc_eq _ _ hz3.symm
  have ha4 := hk4.at ha3 (by simp)
  have hb4 := hk4.at hb3 (by simp)
  have hc4 := hk4.at hc3 (by simp)
  clear hw4
  have hk04 : Keeps [] w w4 := (hk2.trans hk3 (by simp)).trans hk4 (by simp)
  simp only [RgV, Rg, hz4]
  intro rec hst hpe hdf HY
  have hrec : ({ rec with state := .ready, pending := none } : Loop) = rec := by cases rec; simp at hst hpe; subst hst hpe; rfl
  generalize hw6 : (w4.alloc (.deferred (some []))).alloc (.loop rec) = w6
  have hk6 : Keeps [] w4 w6 := by subst hw6; exact ((Keeps.refl [] w4).alloc _).alloc _
  have he6 : w6.heap[n + 4]? = some (.deferred (some [])) := by subst hw6; rw [hp_alloc_old _ _ (by simp [hz4])]; exact hp_alloc_eq _ _ hz4.symm
  have hl6 : w6.heap[n + 5]? = some (.loop rec) := by subst hw6; exact hp_alloc_eq _ _ (by simp [hz4])
  have hk06 : Keeps [] w w6 := hk04.trans hk6 (by simp)
  have hz6 : w6.heap.size = n + 6 := by subst hw6; simp [hz4]
  clear hw6
  -- what stands between two pieces, and when it was left early
  obtain ⟨I, hI⟩ : ∃ I : List Bs → World → Prop, I = fun pre w' => ∃ r6 : Sl, w'.heap[n]? = some (.cells #[.slice none 0 0] 23) ∧ w'.heap[n + 1]? = some (.cells #[.int .i64 0] 24) ∧ w'.heap[n + 2]? = some (.cells #[.slice r6.p r6.len r6.cap] 23) ∧
      SlC w' r6 1 (cT pre) ∧ (∀ x ∈ blk r6, n + 6 ≤ x) ∧ w'.heap[n + 4]? = some (.deferred (some [])) ∧ w'.heap[n + 5]? = some (.loop rec) ∧ pre.length ≤ 4 ∧ Keeps [] w w' := ⟨_, rfl⟩
  obtain ⟨E, hE⟩ : ∃ E : List Bs → Option Bs → World → Prop, E = fun pre o w' => w'.heap[n]? = some (.cells #[.slice none 0 0] 23) ∧ w'.heap[n + 1]? = some (.cells #[.int .i64 11] 24) ∧
      w'.heap[n + 4]? = some (.deferred (some [])) ∧ w'.heap[n + 5]? = some (.loop { rec with state := .done, pending := some .ret }) ∧ (o.isSome = true → pre.length = 4) ∧ Keeps [] w w' := ⟨_, rfl⟩
  -- one round
  have round : ∀ (pre : List Bs) (p : Bs) (ok : Bool) (w1 : World) (o : Obj), I pre w1 → w1.heap[n + 3]? = some o → CallV Tryd.prog (.func (.yield (n + 5)) #[] #[]) [.string (BA p), .bool ok] false [.sc .b]
      (fun r w' => w'.heap[n + 3]? = some o ∧ if r.1 = true then ok = true ∧ I (pre ++ [p]) w' else (ok = true → pre.length = 4) ∧ E pre (if ok then some p else none) w') w1 := by
    intro pre p ok w1 o hi ho
    rw [hI] at hi
    obtain ⟨r6, a1, b1, c1, s1, f1, e1, l1, h4, k1⟩ := hi
    have hz1 : n + 5 < w1.heap.size := hp_lt l1
    have hlen6 : r6.len = pre.length := by have := s1.len; rw [cT_length] at this; omega
    refine HY (BA p, ok, ()) (fun b w' => w'.heap[n + 3]? = some o ∧ if b = true then ok = true ∧ I (pre ++ [p]) w' else (ok = true → pre.length = 4) ∧ E pre (if ok then some p else none) w') w1 l1 ?_
    refine ⟨l1, ?_⟩
    generalize hwb : w1.putObj (n + 5) (.loop { rec with state := .busy }) = wb
    have hwb' : setObjW w1 (n + 5) (.loop { rec with state := .busy }) = wb := hwb
    have kb : Keeps [n + 5] w1 wb := by rw [← hwb']; exact (Keeps.refl _ w1).setObjW (.inl (by simp)) _
    have lb : wb.heap[n + 5]? = some (.loop { rec with state := .busy }) := by rw [← hwb']; exact hp_setObjW_same hz1
    have ab := kb.at a1 (by simp)
    have bb := kb.at b1 (by simp)
    have cb := kb.at c1 (by simp)
    have eb := kb.at e1 (by simp)
    have ob := kb.at ho (by simp)
    have sb := s1.keeps kb (fun x hx => by have := f1 x hx; simp; omega)
    have k0b : Keeps [] w wb := k1.trans kb (by simp; omega)
    have hzb := kb.size
    clear hwb hwb'
    refine Jp_of (fun st w' => st.1 = (!ok || decide (pre.length = 4)) ∧ wb = w') (fun J' hJ => ?_) ?_
    · refine Br_of (fun h => ?_) (fun h => ?_)
      · have h : ok = false := by simpa using h
        exact hJ _ _ ⟨by rw [h]; rfl, rfl⟩
      · have h : ok = true := by simpa using h
        simp only [sx, cb, sxl, List.getElem?_toArray]
        refine hJ _ _ ⟨?_, rfl⟩
        rw [h, hlen6]
        show (((pre.length : Nat) : Int) == 4) = (false || _)
        by_cases h4 : pre.length = 4
        · simp [h4]
        · rw [decide_eq_false h4]; simp; omega
    rintro ⟨_, _⟩ _ ⟨rfl, rfl⟩
    dsimp only
    refine Br_of (fun h => ?_) (fun h => ?_)
    · simp (disch := ((try simp only [sx]); first | done | omega)) only [sx, sxc, sxl, ab, bb, Nat.zero_add, Nat.reduceAdd, Nat.reduceLT, true_and]
      refine ⟨?_, ?_⟩
      · simp (disch := ((try simp only [sx]); first | done | omega)) only [sx, sxc, lb]
      · generalize hwe : setObjW (setObjW wb n (.cells #[.slice none 0 0] 23)) (n + 1) (.cells #[.int .i64 11] 24) = we
        have ke : Keeps [n, n + 1] wb we := by subst hwe; exact ((Keeps.refl _ wb).setObjW (.inl (by simp)) _).setObjW (.inl (by simp)) _
        have ae : we.heap[n]? = some (.cells #[.slice none 0 0] 23) := by subst hwe; rw [hp_setObjW_ne (by omega)]; exact hp_setObjW_same (hp_lt ab)
        have be : we.heap[n + 1]? = some (.cells #[.int .i64 11] 24) := by subst hwe; exact hp_setObjW_same (by rw [size_setObjW]; exact hp_lt bb)
        have le := ke.at lb (by simp)
        have ee := ke.at eb (by simp)
        have oe := ke.at ob (by simp)
        have k0e : Keeps [] w we := k0b.trans ke (by simp; omega)
        have hze := ke.size
        generalize hwf : we.putObj (n + 5) (.loop { ({ rec with state := .busy } : Loop) with state := if (some Code.ret).isNone then .ready else .done, pending := some .ret }) = wf
        have hwf' : setObjW we (n + 5) (.loop { rec with state := .done, pending := some .ret }) = wf := hwf
        have kf : Keeps [n + 5] we wf := by rw [← hwf']; exact (Keeps.refl _ we).setObjW (.inl (by simp)) _
        refine ⟨kf.at oe (by simp), ?_⟩
        rw [if_neg (by simp)]
        refine ⟨fun hok => ?_, ?_⟩
        · rw [hok] at h; simpa using h
        · rw [hE]
          refine ⟨kf.at ae (by simp), kf.at be (by simp), kf.at ee (by simp), by rw [← hwf']; exact hp_setObjW_same (by omega), fun hs => ?_, k0e.trans kf (by simp; omega)⟩
          cases ok with
          | false => simp at hs
          | true => simpa using h
    · simp only [Bool.or_eq_false_iff, Bool.not_eq_false', decide_eq_false_iff_not] at h
      obtain ⟨hok, hn4⟩ := h
      subst hok
      refine ⟨r6, ?_, ?_⟩
      · rw [cell_cellO, cb]; rfl
      refine NewApp_of (size := 1) (bytes := 16) (m := 1) (cs := cT pre) (new := [.string (BA p)]) sb rfl (by simp [Value.oneCell']) (by kernel_rfl) (by omega) (by omega) ?_
      intro r15 we se hle ke hbe
      have hr6lt := sb.lt
      have hnb : ∀ x, x < n + 6 → x ∉ blk r6 := fun x hx hm => by have := f1 x hm; omega
      have ae := ke.at ab (hnb _ (by omega))
      have be := ke.at bb (hnb _ (by omega))
      have ce := ke.at cb (hnb _ (by omega))
      have ee := ke.at eb (hnb _ (by omega))
      have le := ke.at lb (hnb _ (by omega))
      have oe := ke.at ob (hnb _ (by omega))
      have k0e : Keeps [] w we := k0b.trans ke (fun x hx => .inr (by have := f1 x hx; omega))
      have fe : ∀ x ∈ blk r15, n + 6 ≤ x := fun x hx => by
        rcases hbe x hx with h | h
        · exact f1 x h
        · have := hp_lt lb
          by_cases h6 : n + 6 ≤ x
          · exact h6
          · exfalso
            omega
      have hze := ke.size
      simp (disch := ((try simp only [sx]); first | done | omega)) only [sx, sxc, sxl, ce, Nat.zero_add, Nat.reduceAdd, Nat.reduceLT, true_and]
      generalize hwg : setObjW we (n + 2) (.cells #[.slice r15.p r15.len r15.cap] 23) = wg
      have kg : Keeps [n + 2] we wg := by subst hwg; exact (Keeps.refl _ we).setObjW (.inl (by simp)) _
      have cg : wg.heap[n + 2]? = some (.cells #[.slice r15.p r15.len r15.cap] 23) := by subst hwg; exact hp_setObjW_same (hp_lt ce)
      have lg := kg.at le (by simp)
      refine ⟨lg, ?_⟩
      have hzg := kg.size
      generalize hwf : wg.putObj (n + 5) (.loop { ({ rec with state := .busy } : Loop) with state := if (none : Option Code).isNone then .ready else .done, pending := none }) = wf
      have hwf' : setObjW wg (n + 5) (.loop rec) = wf := by rw [← hwf, ← hrec]; rfl
      have kf : Keeps [n + 5] wg wf := by rw [← hwf']; exact (Keeps.refl _ wg).setObjW (.inl (by simp)) _
      refine ⟨kf.at (kg.at oe (by simp)) (by simp), ?_⟩
      rw [if_pos (by simp)]
      rw [hI]
      refine ⟨r15, kf.at (kg.at ae (by simp)) (by simp), kf.at (kg.at be (by simp)) (by simp), kf.at cg (by simp), ?_, fe, kf.at (kg.at ee (by simp)) (by simp), by rw [← hwf']; exact hp_setObjW_same (by have := hp_lt lg; omega), by simp; omega, (k0e.trans kg (by simp; omega)).trans kf (by simp; omega)⟩
      rw [cT_app]
      exact (se.keeps kg (fun x hx => by have := fe x hx; simp; omega)).keeps kf (fun x hx => by have := fe x hx; simp; omega)
  have h0 : I [] w6 := by
    rw [hI]
    exact ⟨⟨none, 0, 0⟩, hk6.at ha4 (by simp), hk6.at hb4 (by simp), hk6.at hc4 (by simp), SlC.nil _ _, by simp [blk_zero], he6, hl6, by simp, hk06⟩
  have hIk : ∀ pre wa wb, I pre wa → Keeps [n + 3] wa wb → I pre wb := by
    intro pre wa wb hi hk
    rw [hI] at hi ⊢
    obtain ⟨r6, a1, b1, c1, s1, f1, e1, l1, h4, k1⟩ := hi
    exact ⟨r6, hk.at a1 (by simp), hk.at b1 (by simp), hk.at c1 (by simp), s1.keeps hk (fun x hx => by have := f1 x hx; simp; omega), f1, hk.at e1 (by simp), hk.at l1 (by simp), h4, k1.trans hk (by simp; omega)⟩
  have hIg : ∀ pre wa, I pre wa → GM m wa := by
    intro pre wa hi
    rw [hI] at hi
    obtain ⟨r6, a1, b1, c1, s1, f1, e1, l1, h4, k1⟩ := hi
    exact g.keep k1
  have hck := ck_len hb
  refine Cl.mono (pieces1_ok (y := .func (.yield (n + 5)) #[] #[]) (I := I) (E := E) (by omega) (hk6.at hd4 (by simp)) h0 hIk hIg ?_ ?_) ?_
  · intro pre p wa o hi ho
    refine CallV.mono (round pre p true wa o hi ho) ?_
    rintro r wb ⟨h1, h2⟩
    refine ⟨h1, ?_⟩
    split
    · rename_i hr; rw [if_pos hr] at h2; exact h2.2
    · rename_i hr; rw [if_neg hr] at h2; exact h2.2
  · intro pre wa o hi ho
    refine CallV.mono (round pre [] false wa o hi ho) ?_
    rintro r wb ⟨h1, h2⟩
    split at h2
    · simp at h2
    · exact h2.2
  rintro _ w7 hend
  have early : ∀ {pre o}, E pre o w7 → pt k = ([], 11) → ∀ (N : Pr) (X : Nat → Pr), ∃ rec' : Loop, w7.heap[n + 4 + 1]? = some (.loop rec') ∧ rec'.state ≠ .busy ∧
      Jm N (Md [n + 4] <| LdL ⟨n, 0, none⟩ fun x21 => LdI .i64 ⟨n + 1, 0, none⟩ fun x22 => R (x21, x22, ())) X rec'.pending (w7.putObj (n + 4 + 1) (.loop { rec' with state := .exhausted })) := by
    intro pre o he hpt N X
    rw [hE] at he
    obtain ⟨a1, b1, e1, l1, _, k1⟩ := he
    refine ⟨_, l1, by simp, ?_⟩
    generalize hw8 : w7.putObj (n + 4 + 1) _ = w8
    have k8 : Keeps [n + 5] w7 w8 := by rw [← hw8, put_set]; exact (Keeps.refl _ w7).setObjW (.inl (by simp)) _
    have a8 := k8.at a1 (by simp)
    have b8 := k8.at b1 (by simp)
    have e8 := k8.at e1 (by simp)
    have k08 := k1.trans k8 (by simp; omega)
    have hz8 := hp_lt e8
    clear hw8
    simp (disch := ((try simp only [sx]); first | done | omega)) only [Jm, Md, put_set, sx, sxc, sxl, a8, b8, e8, Nat.zero_add, Nat.reduceAdd, Nat.reduceLT, true_and]
    refine hR _ _ ⟨?_, by rw [hpt], by simp [blk_zero], k08.setObjW (.inr (by omega)) _⟩
    rw [hpt]
    exact SlC.nil _ _
  rcases hend with ⟨l, hkl, hi⟩ | ⟨pre, r, hkr, hrn, htn, he⟩ | ⟨pre, p, r, hkr, he⟩
  · -- to the end
    rw [hI] at hi
    obtain ⟨r6, a1, b1, c1, s1, f1, e1, l1, h4, k1⟩ := hi
    have hpt : pt k = (l, 0) := by rw [hkl]; exact pt_good (by rw [← hkl]; exact hb) h4
    refine ⟨rec, l1, by rw [hst]; simp, ?_⟩
    rw [hpe]
    generalize hw8 : w7.putObj (n + 4 + 1) (.loop { rec with state := .exhausted, pending := none }) = w8
    have hw8' : setObjW w7 (n + 5) (.loop { rec with state := .exhausted, pending := none }) = w8 := hw8
    have k8 : Keeps [n + 5] w7 w8 := by rw [← hw8']; exact (Keeps.refl _ w7).setObjW (.inl (by simp)) _
    have a8 := k8.at a1 (by simp)
    have b8 := k8.at b1 (by simp)
    have c8 := k8.at c1 (by simp)
    have e8 := k8.at e1 (by simp)
    have s8 := s1.keeps k8 (fun x hx => by have := f1 x hx; simp; omega)
    have k08 := k1.trans k8 (by simp; omega)
    have hz8 := hp_lt e8
    clear hw8 hw8'
    simp (disch := ((try simp only [sx]); first | done | omega)) only [Jm, Md, put_set, sx, sxc, sxl, a8, b8, c8, e8, Nat.zero_add, Nat.reduceAdd, Nat.reduceLT, true_and]
    refine hR _ _ ⟨?_, by rw [hpt], fun x hx => by have := f1 x hx; omega, ((k08.setObjW (.inr (by omega)) _).setObjW (.inr (by omega)) _).setObjW (.inr (by omega)) _⟩
    rw [hpt]
    exact s8.keeps (m := [n, n + 1, n + 4]) ((((Keeps.refl _ w8).setObjW (.inl (by simp)) _).setObjW (.inl (by simp)) _).setObjW (.inl (by simp)) _) (fun x hx => by have := f1 x hx; simp; omega)
  · exact early he (pt_broken hb hkr hrn htn) _ _
  · refine early he (pt_many hb hkr ?_) _ _
    rw [hE] at he
    exact he.2.2.2.2.1 rfl

end Go.Proofs.YthgiocimimdbcaaDoor
