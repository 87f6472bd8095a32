/-
  'draw_sound': what 'drawD' says of a region holds in whatever order its operations come.
-/
import Derived.Test.YtmppjgddemlmdaaSxK
set_option linter.unusedSimpArgs false
set_option linter.unusedVariables false
namespace Go.Sx
open Go

theorem put_size (a : Act) (d : Option Tmp) (v : Value) : (a.put d v).tmps.size = a.tmps.size := by
  cases d <;> simp [Act.put]
theorem put_defers' (a : Act) (d : Option Tmp) (v : Value) : (a.put d v).defers = a.defers := by
  cases d <;> rfl
theorem put_ne (a : Act) {d : Option Tmp} (v : Value) {t : Tmp} (h : d ≠ some t) : (a.put d v).tmps[t]? = a.tmps[t]? := by
  cases d with
  | none => rfl
  | some d =>
    simp only [Act.put]
    exact Array.getElem?_setIfInBounds_ne (fun he => h (by rw [he]))
theorem put_eq (a : Act) {d : Option Tmp} (v : Value) {t : Tmp} (h : d = some t) (hl : t < a.tmps.size) : (a.put d v).tmps[t]? = some v := by
  subst h
  simp only [Act.put]
  rw [Array.getElem?_setIfInBounds_self, if_pos hl]

theorem DInv.listedMask {ds : List Deferred} {P : Program} {ops : List Oper} {listed : Array Bool} {a : Act} {w : World} {tr : List Ent} {done : Nat} {qs : List Ent} {e : Env} (h : DInv ds P ops listed a w tr done qs e) (hok : drawOk ops = true)
    {i : Nat} {o : Oper} (ho : ops[i]? = some o) (hr : ∀ e ∈ o.after.toList, Region.binds .any e = true → Li listed e.on) {k : Nat} (hk : (mkAt (masks ops) i).testBit k = true) : Li listed k := by
  simp only [drawOk, Bool.and_eq_true] at hok
  exact closed_mask h.closed hok.1 i o ho hr k hk

/-- An operation that was done in mind is done. -/
theorem DInv.pends {ds : List Deferred} {P : Program} {ops : List Oper} {listed : Array Bool} {a : Act} {w : World} {tr : List Ent} {done : Nat} {qs : List Ent} {e : Env} (h : DInv ds P ops listed a w tr done qs e) (hok : drawOk ops = true)
    {x : Ent} (hx : x ∈ tr) (hxl : ¬ Li listed x.i) (hs : x.i < listed.size) (hr : ∀ e ∈ x.o.after.toList, Region.binds .any e = true → Li listed e.on) :
    DInv ds P ops (listed.setIfInBounds x.i true) (a.put x.o.dst x.v) w tr done qs e := by
  have hok2 := hok
  simp only [drawOk, Bool.and_eq_true] at hok2
  have hL : ∀ k, Li (listed.setIfInBounds x.i true) k ↔ Li listed k ∨ k = x.i := fun k => Li_set hs
  have hne : ∀ y ∈ tr, x.o.dst ≠ y.o.dst ∨ y.i ≠ x.i ∨ y.o = x.o := fun y hy => by
    by_cases hi : y.i = x.i
    · have h1 := h.at_ y hy
      rw [hi, h.at_ x hx, Option.some.injEq] at h1
      exact .inr (.inr h1.symm)
    · exact .inr (.inl hi)
  constructor
  · rw [put_defers']; exact h.defers
  · rw [put_size]; exact h.size
  · intro y hy; rw [put_size]; exact h.esize y hy
  · exact h.dn
  · exact h.at_
  · intro k hk
    rcases (hL k).1 hk with hk | rfl
    · exact h.sub k hk
    · exact (h.dn _).2 ⟨x, hx, rfl⟩
  · intro j o hj ho e' he hb
    rw [hL]
    rcases (hL j).1 hj with hj | rfl
    · exact .inl (h.closed j o hj ho e' he hb)
    · rw [h.at_ x hx, Option.some.injEq] at ho
      subst ho
      exact .inl (hr e' he hb)
  · intro y hy hyh
    exact (hL _).2 (.inl (h.hv y hy hyh))
  · exact h.msk
  · intro y hy hyl
    exact h.pend y hy (fun hh => hyl ((hL _).2 (.inl hh)))
  · intro y hy hyl t ht u hu
    have hyl' : ¬ Li listed y.i := fun hh => hyl ((hL _).2 (.inl hh))
    have hyi : x.i ≠ y.i := fun hh => hyl ((hL _).2 (.inr hh.symm))
    by_cases hd : x.o.dst = some t
    · have hlt : t < a.tmps.size := Nat.lt_of_lt_of_le (Env.get_lt hu) (h.esize y hy)
      rw [put_eq a x.v hd hlt]
      rcases (ordered hok2.2 (h.at_ x hx) (h.at_ y hy) hyi hd).2 ht with hh | hh
      · rw [h.vals y hy x hx hh t hd u hu]; exact .inl rfl
      · exact absurd (h.listedMask hok (h.at_ x hx) hr hh) hyl'
    · rw [put_ne a x.v hd]
      rcases h.opd y hy hyl' t ht u hu with hh | ⟨z, hz, hzl, hzd, hzm, hzv⟩
      · exact .inl hh
      · refine .inr ⟨z, hz, fun hh => ?_, hzd, hzm, hzv⟩
        rcases (hL _).1 hh with hh | hh
        · exact hzl hh
        · have h1 := h.at_ z hz
          rw [hh, h.at_ x hx, Option.some.injEq] at h1
          rw [h1] at hd
          exact hd hzd
  · intro t u hu
    by_cases hd : x.o.dst = some t
    · have hlt : t < a.tmps.size := Nat.lt_of_lt_of_le (Env.get_lt hu) h.size
      rw [put_eq a x.v hd hlt, h.cur x hx t hd u hu]
      exact .inl rfl
    · rw [put_ne a x.v hd]
      rcases h.fin t u hu with hh | ⟨z, hz, hzl, hzd, hzv⟩
      · exact .inl hh
      · refine .inr ⟨z, hz, fun hh => ?_, hzd, hzv⟩
        rcases (hL _).1 hh with hh | hh
        · exact hzl hh
        · have h1 := h.at_ z hz
          rw [hh, h.at_ x hx, Option.some.injEq] at h1
          rw [h1] at hd
          exact hd hzd
  · exact h.vals
  · exact h.cur
  · intro y hy hyl
    exact h.qsr y hy (fun hh => hyl ((hL _).2 (.inl hh)))

/-- Another operation is done. -/
theorem DInv.heavy {ds : List Deferred} {P : Program} {ops : List Oper} {listed : Array Bool} {a : Act} {w w' : World} {tr : List Ent} {done : Nat} {qs : List Ent} {e : Env} (h : DInv ds P ops listed a w tr done qs e) (hok : drawOk ops = true)
    {i : Nat} {o : Oper} (ho : ops[i]? = some o) (hs : i < listed.size) (hd : done.testBit i = false) (hr : ∀ e ∈ o.after.toList, Region.binds .any e = true → Li listed e.on) {v : Value} {ex : Bool}
    (hrd : ∀ x ∈ tr, ¬ Li listed x.i → x.ex = true → isRead P x.o = true → (execOp (rho x.e) x.o).run P w' = .ok (.value x.v) w') :
    DInv ds P ops (listed.setIfInBounds i true) (a.put o.dst v) w' (⟨i, o, e, v, ex⟩ :: tr) (done ||| 2 ^ i) qs (e.put o.dst v) := by
  have hok2 := hok
  simp only [drawOk, Bool.and_eq_true] at hok2
  have hL : ∀ k, Li (listed.setIfInBounds i true) k ↔ Li listed k ∨ k = i := fun k => Li_set hs
  have hni : ∀ x ∈ tr, x.i ≠ i := fun x hx he => by rw [(h.dn i).2 ⟨x, hx, he⟩] at hd; cases hd
  have hlen : (e.put o.dst v).length = e.length := by cases hod : o.dst <;> simp [Env.put, Env.length_set]
  have hget : ∀ t u, (e.put o.dst v).get t = some u → (o.dst = some t ∧ u = v) ∨ (o.dst ≠ some t ∧ e.get t = some u) := by
    intro t u hu
    cases hod : o.dst with
    | none => exact .inr ⟨by simp, by simpa [Env.put, hod] using hu⟩
    | some d =>
      simp only [Env.put, hod] at hu
      rcases Env.get_set_some hu with ⟨rfl, hh⟩ | ⟨hne, hh⟩
      · exact .inl ⟨rfl, by simpa using hh.symm⟩
      · exact .inr ⟨by simpa using hne, hh⟩
  have hmd : ∀ k, (mkAt (masks ops) i).testBit k = true → done.testBit k = true := fun k hk => h.sub k (h.listedMask hok ho hr hk)
  constructor
  · rw [put_defers']; exact h.defers
  · rw [put_size, hlen]; exact h.size
  · intro x hx
    rw [put_size]
    rcases List.mem_cons.1 hx with rfl | hx
    · exact h.size
    · exact h.esize x hx
  · intro k
    rw [testBit_add, h.dn k]
    constructor
    · rintro (⟨x, hx, rfl⟩ | rfl)
      · exact ⟨x, List.mem_cons_of_mem _ hx, rfl⟩
      · exact ⟨_, List.mem_cons_self, rfl⟩
    · rintro ⟨x, hx, rfl⟩
      rcases List.mem_cons.1 hx with rfl | hx
      · exact .inr rfl
      · exact .inl ⟨x, hx, rfl⟩
  · intro x hx
    rcases List.mem_cons.1 hx with rfl | hx
    · exact ho
    · exact h.at_ x hx
  · intro k hk
    rcases (hL k).1 hk with hk | rfl
    · exact testBit_add.2 (.inl (h.sub k hk))
    · exact testBit_add.2 (.inr rfl)
  · intro j oj hj hoj e' he hb
    rw [hL]
    rcases (hL j).1 hj with hj | rfl
    · exact .inl (h.closed j oj hj hoj e' he hb)
    · rw [ho, Option.some.injEq] at hoj
      subst hoj
      exact .inl (hr e' he hb)
  · intro x hx hxh
    rw [hL]
    rcases List.mem_cons.1 hx with rfl | hx
    · exact .inr rfl
    · exact .inl (h.hv x hx hxh)
  · intro x hx k hk
    rcases List.mem_cons.1 hx with rfl | hx
    · exact testBit_add.2 (.inl (hmd k hk))
    · exact testBit_add.2 (.inl (h.msk x hx k hk))
  · intro x hx hxl
    rcases List.mem_cons.1 hx with rfl | hx
    · exact absurd ((hL _).2 (.inr rfl)) hxl
    · have hxl' : ¬ Li listed x.i := fun hh => hxl ((hL _).2 (.inl hh))
      have hp := h.pend x hx hxl'
      exact ⟨hp.want, hp.sel, hp.known, hrd x hx hxl', hp.pure, hp.skip⟩
  · intro x hx hxl t ht u hu
    rcases List.mem_cons.1 hx with rfl | hx
    · exact absurd ((hL _).2 (.inr rfl)) hxl
    · have hxl' : ¬ Li listed x.i := fun hh => hxl ((hL _).2 (.inl hh))
      have hdt : o.dst ≠ some t := fun hdt => by
        rcases (ordered hok2.2 ho (h.at_ x hx) (Ne.symm (hni x hx)) hdt).2 ht with hh | hh
        · have := h.msk x hx _ hh
          rw [hd] at this
          cases this
        · exact hxl' (h.listedMask hok ho hr hh)
      rw [put_ne a v hdt]
      rcases h.opd x hx hxl' t ht u hu with hh | ⟨z, hz, hzl, hzr⟩
      · exact .inl hh
      · refine .inr ⟨z, List.mem_cons_of_mem _ hz, fun hh => ?_, hzr⟩
        rcases (hL _).1 hh with hh | hh
        · exact hzl hh
        · exact hni z hz hh
  · intro t u hu
    rcases hget t u hu with ⟨hod, rfl⟩ | ⟨hne, hu'⟩
    · have hlt : t < a.tmps.size := Nat.lt_of_lt_of_le (Env.get_lt hu) (by rw [hlen]; exact h.size)
      exact .inl (put_eq a _ hod hlt)
    · rw [put_ne a v hne]
      rcases h.fin t u hu' with hh | ⟨z, hz, hzl, hzr⟩
      · exact .inl hh
      · refine .inr ⟨z, List.mem_cons_of_mem _ hz, fun hh => ?_, hzr⟩
        rcases (hL _).1 hh with hh | hh
        · exact hzl hh
        · exact hni z hz hh
  · intro x hx y hy hxy t hyd u hu
    rcases List.mem_cons.1 hx with rfl | hx
    · simp only at hxy hu
      rcases List.mem_cons.1 hy with rfl | hy
      · have := hmd _ hxy
        rw [hd] at this
        cases this
      · exact h.cur y hy t hyd u hu
    · rcases List.mem_cons.1 hy with rfl | hy
      · have := h.msk x hx _ hxy
        rw [hd] at this
        cases this
      · exact h.vals x hx y hy hxy t hyd u hu
  · intro y hy t hyd u hu
    rcases List.mem_cons.1 hy with rfl | hy'
    · simp only at hyd ⊢
      rcases hget t u hu with ⟨_, hv⟩ | ⟨hne, _⟩
      · exact hv
      · exact absurd hyd hne
    · rcases hget t u hu with ⟨hod, _⟩ | ⟨hne, hu⟩
      · exact absurd hod (ordered hok2.2 (h.at_ y hy') ho (hni y hy') hyd).1
      · exact h.cur y hy' t hyd u hu
  · intro x hx hxl hxe hxr
    rcases List.mem_cons.1 hx with rfl | hx
    · exact absurd ((hL _).2 (.inr rfl)) hxl
    · exact h.qsr x hx (fun hh => hxl ((hL _).2 (.inl hh))) hxe hxr

theorem subMask_of {m d : Nat} (h : ∀ k, m.testBit k = true → d.testBit k = true) : subMask m d = true := by
  unfold subMask
  have : m &&& d = m := by
    apply Nat.eq_of_testBit_eq
    intro k
    rw [Nat.testBit_and]
    cases hk : m.testBit k with
    | false => rfl
    | true => rw [h k hk]; rfl
  rw [this]
  exact Nat.beq_refl m

theorem count_set {l : Array Bool} {i : Nat} (h : l.getD i true = false) : (l.setIfInBounds i true).toList.count false + 1 = l.toList.count false := by
  have hi : i < l.size := by
    rcases Nat.lt_or_ge i l.size with h' | h'
    · exact h'
    · simp [Array.getElem?_eq_none h'] at h
  have hv : l[i] = false := by simpa [hi] using h
  have hv' : l.toList[i]'(by simpa using hi) = false := by simpa using hv
  rw [Array.toList_setIfInBounds, List.count_set (by simpa using hi)]
  have hpos : 0 < l.toList.count false := List.count_pos_iff.2 (by rw [← hv']; exact List.getElem_mem _)
  rw [hv']
  simp only [beq_self_eq_true, if_true, show (true == false) = false from rfl, Bool.false_eq_true, if_false]
  omega

theorem nodefer_of_quiet {P : Program} {o : Oper} (h : isHeavy P o = false) : ∀ c, o.op ≠ .defer c := by
  intro c hc
  simp [isHeavy, cls, hc] at h

theorem wpAny_of {ds : List Deferred} {r : Option Nat} {P : Program} {ops : List Oper} {K : Env → Pr} {Q : Exit → Act → World → Prop} (hok : drawOk ops = true) (hQ : ∀ e' a' w', K e' w' → Knows ds e' a' → Q .normal a' w') :
    ∀ (fuel : Nat) {listed : Array Bool} {a : Act} {w : World} {tr : List Ent} {done n : Nat} {qs : List Ent} {e : Env}, drawD P ops (masks ops) K n done qs e w → DInv ds P ops listed a w tr done qs e → listed.size = ops.length →
      listed.toList.count false ≤ fuel → wpAnyIn (WF r) 0 P .any ops.toArray Q fuel listed a w := by
  intro fuel
  -- where nothing is ready, all is done
  have fin : ∀ {listed : Array Bool} {a : Act} {w : World} {tr : List Ent} {done n : Nat} {qs : List Ent} {e : Env}, drawD P ops (masks ops) K n done qs e w → DInv ds P ops listed a w tr done qs e → listed.size = ops.length →
      Region.ready .any ops.toArray listed = [] → Q .normal a w := by
    intro listed a w tr done n qs e h hi hs hr
    obtain ⟨n', tr', done', qs', e', hi', hn, hR⟩ := advance hok n h hi
    have hall : ∀ j, j < ops.length → Li listed j := by
      intro j
      induction j using Nat.strongRecOn with
      | _ j ih =>
        intro hj
        have hok2 := hok
        simp only [drawOk, Bool.and_eq_true] at hok2
        cases hl : listed.getD j true with
        | true =>
          unfold Li
          have : j < listed.size := by omega
          simp [this] at hl ⊢
          exact hl
        | false =>
          have hm : j ∈ Region.ready .any ops.toArray listed := by
            rw [mem_ready]
            refine ⟨hl, ops[j], by simp [hj], fun e he hb => ?_⟩
            have hlt := edgesBack_at hok2.1 (List.getElem?_eq_getElem hj) e (by simpa using he) hb
            exact ih e.on (by omega) (by omega)
          rw [hr] at hm
          cases hm
    have hdone : ∀ j, j < ops.length → done'.testBit j = true := fun j hj => hi'.sub j (hall j hj)
    have hK : K e' w := by
      rcases hR with ⟨_, hK⟩ | hR
      · exact hK
      · have : heavies P (masks ops) done' ops 0 = [] := by
          have key : ∀ (r : List Oper) (m : Nat), (∀ k, k < r.length → done'.testBit (m + k) = true) → heavies P (masks ops) done' r m = [] := by
            intro r
            induction r with
            | nil => intro m _; rfl
            | cons o r ih =>
              intro m hm
              have h0 := hm 0 (by simp)
              rw [Nat.add_zero] at h0
              simp only [heavies, h0]
              exact ih (m + 1) (fun k hk => by have := hm (k + 1) (by simp; omega); rwa [show m + 1 + k = m + (k + 1) from by omega])
          exact key ops 0 (fun k hk => by rw [Nat.zero_add]; exact hdone k hk)
        rw [this] at hR
        exact hR.elim
    refine hQ e' a w hK ⟨hi'.size, hi'.defers, fun t v hv => ?_⟩
    rcases hi'.fin t v hv with hh | ⟨y, hy, hyl, _⟩
    · exact hh
    · have := List.getElem?_eq_some_iff.1 (hi'.at_ y hy)
      exact absurd (hall y.i this.1) hyl
  induction fuel with
  | zero =>
    intro listed a w tr done n qs e h hi hs hc
    have hr : Region.ready .any ops.toArray listed = [] := by
      rw [List.eq_nil_iff_forall_not_mem]
      intro j hj
      rw [mem_ready] at hj
      have := count_set hj.1
      omega
    exact ⟨hr, fin h hi hs hr⟩
  | succ fuel ih =>
    intro listed a w tr done n qs e h hi hs hc
    refine ⟨fin h hi hs, fun i hir => ?_⟩
    rw [mem_ready] at hir
    obtain ⟨hl, o, ho, hr⟩ := hir
    have ho' : ops[i]? = some o := by simpa using ho
    have hlt : i < listed.size := by
      have := (List.getElem?_eq_some_iff.1 ho').1
      omega
    have hnl : ¬ Li listed i := by
      unfold Li
      simp [hlt] at hl ⊢
      exact hl
    have hr' : ∀ e ∈ o.after.toList, Region.binds .any e = true → Li listed e.on := fun e he hb => hr e (by simpa using he) hb
    have hcs := count_set hl
    have hsz : (listed.setIfInBounds i true).size = ops.length := by simp [hs]
    obtain ⟨n', tr', done', qs', e', hi', hn, hR⟩ := advance hok n h hi
    unfold wpOpIn
    rw [ho]
    simp only
    cases hd : done'.testBit i with
    | true =>
      obtain ⟨x, hx, rfl⟩ := (hi'.dn i).1 hd
      have hxo := hi'.at_ x hx
      rw [ho', Option.some.injEq] at hxo
      subst hxo
      have hp := hi'.pend x hx hnl
      have hlook : ∀ t ∈ looks ops x.o, ∀ u, x.e.get t = some u → a.tmps[t]? = some u := by
        intro t ht u hu
        rcases hi'.opd x hx hnl t ht u hu with hh | ⟨y, hy, hyl, hyd, hym, hyv⟩
        · exact hh
        · exact absurd (hi'.listedMask hok ho' hr' hym) hyl
      have hw : Region.wanted x.o (yielded ops.toArray a.tmps) = x.ex := hp.want a fun t ht v hv => hlook t (by simp [looks, ht]) v hv
      rw [hw]
      have hnext : wpAnyIn (WF r) 0 P .any ops.toArray Q fuel (listed.setIfInBounds x.i true) (a.put x.o.dst x.v) w := by
        have hi'' := hi'.pends hok hx hnl hlt hr'
        -- 'drawD' at the point that was reached
        have hD : drawD P ops (masks ops) K (n' + 1) done' qs' e' w := by
          simp only [drawD, hn]
          rcases hR with ⟨hb, hK⟩ | hR
          · rw [hb]; exact hK
          · cases hb : Nat.beq done' (full ops.length) with
            | false => exact hR
            | true =>
              have hempty : heavies P (masks ops) done' ops 0 = [] := by
                have heq := Nat.eq_of_beq_eq_true hb
                have key : ∀ (r : List Oper) (m : Nat), (∀ k, k < r.length → done'.testBit (m + k) = true) → heavies P (masks ops) done' r m = [] := by
                  intro r
                  induction r with
                  | nil => intro m _; rfl
                  | cons o r ih =>
                    intro m hm
                    have h0 := hm 0 (by simp)
                    rw [Nat.add_zero] at h0
                    simp only [heavies, h0]
                    exact ih (m + 1) (fun k hk => by have := hm (k + 1) (by simp; omega); rwa [show m + 1 + k = m + (k + 1) from by omega])
                exact key ops 0 (fun k hk => by rw [heq, full, Nat.testBit_two_pow_sub_one]; simp; omega)
              rw [hempty] at hR
              exact hR.elim
        exact ih hD hi'' hsz (by omega)
      cases hex : x.ex with
      | false =>
        rw [hp.skip hex] at hnext
        exact ⟨fun _ _ => trivial, hnext⟩
      | true =>
        simp only [if_true]
        have he : execOp (rho x.e) x.o = execOp a.eval x.o := execOp_known (hp.sel hex) fun t ht => by
          obtain ⟨v, hv⟩ := knownL_mem (hp.known hex) t ht
          refine ⟨v, hv, hlook t ?_ v hv⟩
          unfold looks
          split
          · exact List.mem_cons_of_mem _ ht
          · exact ht
        refine wpIn_of_does (nodefer_of_quiet (by cases hh : isHeavy P x.o with | false => rfl | true => exact absurd (hi'.hv x hx hh) hnl)) ?_
        rw [← he]
        have hrun : (execOp (rho x.e) x.o).run P w = .ok (.value x.v) w := by
          cases hrd : isRead P x.o with
          | true => exact hp.read hex hrd
          | false => exact hp.pure hex hrd w
        rw [hrun]
        exact hnext
    | false =>
      have hheavy : isHeavy P o = true := by
        rcases nextQuiet_none hn i o ho' with hh | hh | hh
        · rw [Nat.zero_add, hd] at hh; cases hh
        · exact hh
        · rw [Nat.zero_add, subMask_of (fun k hk => hi'.sub k (hi'.listedMask hok ho' hr' hk))] at hh
          cases hh
      have hsub : subMask (mkAt (masks ops) i) done' = true := subMask_of (fun k hk => hi'.sub k (hi'.listedMask hok ho' hr' hk))
      have hstep : heavyStep P ops (masks ops) i o e' qs' (fun e => drawD P ops (masks ops) K n' (done' ||| 2 ^ i) qs' e) w := by
        rcases hR with ⟨hb, _⟩ | hR
        · have heq := Nat.eq_of_beq_eq_true hb
          have hlen := (List.getElem?_eq_some_iff.1 ho').1
          rw [heq, full, Nat.testBit_two_pow_sub_one] at hd
          simp at hd
          omega
        · have hm := mem_heavies (P := P) (M := masks ops) (done := done') (r := ops) (n := 0) (k := i) ho' (by rw [Nat.zero_add]; exact hd) hheavy (by rw [Nat.zero_add]; exact hsub)
          rw [Nat.zero_add] at hm
          exact allP_mem hR _ (List.mem_map.2 ⟨(i, o), hm, rfl⟩)
      have hlook : ∀ t ∈ looks ops o, ∀ u, e'.get t = some u → a.tmps[t]? = some u := by
        intro t ht u hu
        rcases hi'.fin t u hu with hh | ⟨y, hy, hyl, hyd, hyv⟩
        · exact hh
        · have hok2 := hok
          simp only [drawOk, Bool.and_eq_true] at hok2
          have hyi : y.i ≠ i := fun hh => by rw [(hi'.dn i).2 ⟨y, hy, hh⟩] at hd; cases hd
          rcases (ordered hok2.2 (hi'.at_ y hy) ho' hyi hyd).2 ht with hh | hh
          · exact absurd (hi'.listedMask hok ho' hr' hh) hyl
          · have := hi'.msk y hy _ hh
            rw [hd] at this
            cases this
      obtain ⟨b, hb, hw⟩ := grdD_elim hstep
      rw [hw a (fun t ht v hv => hlook t (by simp [looks, ht]) v hv)]
      cases b with
      | false =>
        simp only [Bool.false_eq_true, if_false] at hb ⊢
        refine ⟨fun _ _ => trivial, ?_⟩
        have hi'' := hi'.heavy hok ho' hlt hd hr' (v := undef) (ex := false) (w' := w) (fun x hx hxl hxe hxr => (hi'.pend x hx hxl).read hxe hxr)
        exact ih hb hi'' hsz (by omega)
      | true =>
        simp only [if_true] at hb ⊢
        split at hb
        · rename_i hk
          simp only [Bool.and_eq_true] at hk
          have he : execOp (rho e') o = execOp a.eval o := execOp_known hk.1 fun t ht => by
            obtain ⟨v, hv⟩ := knownL_mem hk.2 t ht
            refine ⟨v, hv, hlook t ?_ v hv⟩
            unfold looks
            split
            · exact List.mem_cons_of_mem _ ht
            · exact ht
          have hdoes := opD_sound hb r a (wpAnyIn (WF r) 0 P .any ops.toArray Q fuel (listed.setIfInBounds i true)) Q (fun v w' hv => by
            obtain ⟨hD, hag⟩ := again_elim hv
            have hi'' := hi'.heavy hok ho' hlt hd hr' (v := v) (ex := true) (w' := w') (fun x hx hxl hxe hxr => by
              refine hag x (hi'.qsr x hx hxl hxe hxr) ?_
              cases hb' : (mkAt (masks ops) i).testBit x.i with
              | false => rfl
              | true => exact absurd (hi'.listedMask hok ho' hr' hb') hxl)
            exact ih hD hi'' hsz (by omega))
          refine wpIn_of_does (opD_nodefer hb) ?_
          rw [← he]
          exact hdoes
        · exact hb.elim

/-- A region that draws its order. -/
theorem draw_sound {ds : List Deferred} {r : Option Nat} {P : Program} {id : Nat} {ops : Array Oper} {K : Env → Pr} {Q : Exit → Act → World → Prop} {e : Env} {a : Act} {w : World} {n : Nat} (hm : P.follows .mixedOrders = true) (hok : drawOk ops.toList = true)
    (h : drawD P ops.toList (masks ops.toList) K n 0 [] e w.drew) (ha : Knows ds e a) (hQ : ∀ e' a' w', K e' w' → Knows ds e' a' → Q .normal a' w') : (Code.region id ops true).wpIn (WF r) 0 P Q a w := by
  refine wpIn_region_any hm ?_
  have hops : ops.toList.toArray = ops := by simp
  rw [← hops]
  refine wpAny_of hok hQ _ (tr := []) h ?_ (by simp) (by simp)
  constructor
  · exact ha.defers
  · exact ha.size
  · intro x hx; cases hx
  · intro i; simp
  · intro x hx; cases hx
  · intro i hi
    unfold Li at hi
    simp [Array.getElem?_replicate] at hi
    split at hi <;> simp at hi
  · intro j o hj
    unfold Li at hj
    simp [Array.getElem?_replicate] at hj
    split at hj <;> simp at hj
  · intro x hx; cases hx
  · intro x hx; cases hx
  · intro x hx; cases hx
  · intro x hx; cases hx
  · intro t u hu
    exact .inl (ha.val t u hu)
  · intro x hx; cases hx
  · intro y hy; cases hy
  · intro x hx; cases hx

end Go.Sx
