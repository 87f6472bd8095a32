/-
  What 'drawD' says holds whatever order is drawn: 'draw_sound'.
-/
import Derived.Test.YtmppjgddemlmdaaSxJ
set_option linter.unusedSimpArgs false
set_option linter.unusedVariables false
namespace Go.Sx
open Go

def Li (listed : Array Bool) (i : Nat) : Prop := listed.getD i false = true

structure PendOk (P : Program) (ops : List Oper) (w : World) (x : Ent) : Prop where
  want : ∀ a : Act, (∀ t, guardTmp ops x.o = some t → ∀ v, x.e.get t = some v → a.tmps[t]? = some v) → Region.wanted x.o (yielded ops.toArray a.tmps) = x.ex
  sel : x.ex = true → notSel x.o.op = true
  known : x.ex = true → knownL x.e (tmpsOf (opnds x.o.op)) = true
  read : x.ex = true → isRead P x.o = true → (execOp (rho x.e) x.o).run P w = .ok (.value x.v) w
  pure : x.ex = true → isRead P x.o = false → ∀ w', (execOp (rho x.e) x.o).run P w' = .ok (.value x.v) w'
  skip : x.ex = false → x.v = undef

structure DInv (ds : List Deferred) (P : Program) (ops : List Oper) (listed : Array Bool) (a : Act) (w : World) (tr : List Ent) (done : Nat) (qs : List Ent) (e : Env) : Prop where
  defers : a.defers = ds
  size : e.length ≤ a.tmps.size
  esize : ∀ x ∈ tr, x.e.length ≤ a.tmps.size
  dn : ∀ i, done.testBit i = true ↔ ∃ x ∈ tr, x.i = i
  at_ : ∀ x ∈ tr, ops[x.i]? = some x.o
  sub : ∀ i, Li listed i → done.testBit i = true
  closed : Closed ops (Li listed)
  hv : ∀ x ∈ tr, isHeavy P x.o = true → Li listed x.i
  msk : ∀ x ∈ tr, ∀ k, (mkAt (masks ops) x.i).testBit k = true → done.testBit k = true
  pend : ∀ x ∈ tr, ¬ Li listed x.i → PendOk P ops w x
  opd : ∀ x ∈ tr, ¬ Li listed x.i → ∀ t ∈ looks ops x.o, ∀ u, x.e.get t = some u →
    a.tmps[t]? = some u ∨ ∃ y ∈ tr, ¬ Li listed y.i ∧ y.o.dst = some t ∧ (mkAt (masks ops) x.i).testBit y.i = true ∧ y.v = u
  fin : ∀ t u, e.get t = some u → a.tmps[t]? = some u ∨ ∃ y ∈ tr, ¬ Li listed y.i ∧ y.o.dst = some t ∧ y.v = u
  vals : ∀ x ∈ tr, ∀ y ∈ tr, (mkAt (masks ops) x.i).testBit y.i = true → ∀ t, y.o.dst = some t → ∀ u, x.e.get t = some u → u = y.v
  cur : ∀ y ∈ tr, ∀ t, y.o.dst = some t → ∀ u, e.get t = some u → u = y.v
  qsr : ∀ x ∈ tr, ¬ Li listed x.i → x.ex = true → isRead P x.o = true → x ∈ qs

theorem testBit_add {d i k : Nat} : (d ||| 2 ^ i).testBit k = true ↔ d.testBit k = true ∨ k = i := by
  rw [Nat.testBit_or, Bool.or_eq_true, Nat.testBit_two_pow, decide_eq_true_eq]
  exact or_congr Iff.rfl eq_comm

/-- One more operation of those that compute or read is done in mind. -/
theorem DInv.quiet {ds : List Deferred} {P : Program} {ops : List Oper} {listed : Array Bool} {a : Act} {w : World} {tr : List Ent} {done : Nat} {qs : List Ent} {e : Env} (h : DInv ds P ops listed a w tr done qs e) (hok : drawOk ops = true)
    {i : Nat} {o : Oper} (ho : ops[i]? = some o) (hd : done.testBit i = false) (hq : isHeavy P o = false) (hm : subMask (mkAt (masks ops) i) done = true) {v : Value} {ex : Bool}
    (hp : PendOk P ops w ⟨i, o, e, v, ex⟩) {qs' : List Ent} (hqs : ∀ x ∈ qs, x ∈ qs') (hqn : ex = true → isRead P o = true → (⟨i, o, e, v, ex⟩ : Ent) ∈ qs') :
    DInv ds P ops listed a w (⟨i, o, e, v, ex⟩ :: tr) (done ||| 2 ^ i) qs' (e.put o.dst v) := by
  simp only [drawOk, Bool.and_eq_true] at hok
  have hnl : ¬ Li listed i := fun hl => by rw [h.sub i hl] at hd; cases hd
  have hni : ∀ x ∈ tr, x.i ≠ i := fun x hx he => by rw [(h.dn i).2 ⟨x, hx, he⟩] at hd; cases hd
  have hlen : (e.put o.dst v).length = e.length := by cases hod : o.dst <;> simp [Env.put, Env.length_set]
  have hget : ∀ t u, (e.put o.dst v).get t = some u → (o.dst = some t ∧ u = v) ∨ (o.dst ≠ some t ∧ e.get t = some u) := by
    intro t u hu
    cases hod : o.dst with
    | none => exact .inr ⟨by simp, by simpa [Env.put, hod] using hu⟩
    | some d =>
      simp only [Env.put, hod] at hu
      rcases Env.get_set_some hu with ⟨rfl, hh⟩ | ⟨hne, hh⟩
      · exact .inl ⟨rfl, by simpa using hh.symm⟩
      · exact .inr ⟨by simpa using hne, hh⟩
  constructor
  · exact h.defers
  · rw [hlen]; exact h.size
  · intro x hx
    rcases List.mem_cons.1 hx with rfl | hx
    · exact h.size
    · exact h.esize x hx
  · intro k
    rw [testBit_add, h.dn k]
    constructor
    · rintro (⟨x, hx, rfl⟩ | rfl)
      · exact ⟨x, List.mem_cons_of_mem _ hx, rfl⟩
      · exact ⟨_, List.mem_cons_self, rfl⟩
    · rintro ⟨x, hx, rfl⟩
      rcases List.mem_cons.1 hx with rfl | hx
      · exact .inr rfl
      · exact .inl ⟨x, hx, rfl⟩
  · intro x hx
    rcases List.mem_cons.1 hx with rfl | hx
    · exact ho
    · exact h.at_ x hx
  · intro k hk
    exact testBit_add.2 (.inl (h.sub k hk))
  · exact h.closed
  · intro x hx hxh
    rcases List.mem_cons.1 hx with rfl | hx
    · simp only at hxh; rw [hq] at hxh; cases hxh
    · exact h.hv x hx hxh
  · intro x hx k hk
    rcases List.mem_cons.1 hx with rfl | hx
    · exact testBit_add.2 (.inl (subMask_bit hm hk))
    · exact testBit_add.2 (.inl (h.msk x hx k hk))
  · intro x hx hxl
    rcases List.mem_cons.1 hx with rfl | hx
    · exact hp
    · exact h.pend x hx hxl
  · intro x hx hxl t ht u hu
    rcases List.mem_cons.1 hx with rfl | hx
    · simp only at ht hu ⊢
      rcases h.fin t u hu with hh | ⟨y, hy, hyl, hyd, hyv⟩
      · exact .inl hh
      · refine .inr ⟨y, List.mem_cons_of_mem _ hy, hyl, hyd, ?_, hyv⟩
        rcases (ordered hok.2 (h.at_ y hy) ho (hni y hy) hyd).2 ht with hh | hh
        · exact hh
        · have := h.msk y hy i hh
          rw [hd] at this
          cases this
    · rcases h.opd x hx hxl t ht u hu with hh | ⟨y, hy, hr⟩
      · exact .inl hh
      · exact .inr ⟨y, List.mem_cons_of_mem _ hy, hr⟩
  · intro t u hu
    rcases hget t u hu with ⟨hod, rfl⟩ | ⟨hne, hu⟩
    · exact .inr ⟨_, List.mem_cons_self, hnl, hod, rfl⟩
    · rcases h.fin t u hu with hh | ⟨y, hy, hr⟩
      · exact .inl hh
      · exact .inr ⟨y, List.mem_cons_of_mem _ hy, hr⟩
  · intro x hx y hy hxy t hyd u hu
    rcases List.mem_cons.1 hx with rfl | hx
    · simp only at hxy hu
      rcases List.mem_cons.1 hy with rfl | hy
      · have := subMask_bit hm hxy
        rw [hd] at this
        cases this
      · exact h.cur y hy t hyd u hu
    · rcases List.mem_cons.1 hy with rfl | hy
      · have := h.msk x hx _ hxy
        rw [hd] at this
        cases this
      · exact h.vals x hx y hy hxy t hyd u hu
  · intro y hy t hyd u hu
    rcases List.mem_cons.1 hy with rfl | hy'
    · simp only at hyd ⊢
      rcases hget t u hu with ⟨_, hv⟩ | ⟨hne, _⟩
      · exact hv
      · exact absurd hyd hne
    · rcases hget t u hu with ⟨hod, _⟩ | ⟨hne, hu⟩
      · exact absurd hod (ordered hok.2 (h.at_ y hy') ho (hni y hy') hyd).1
      · exact h.cur y hy' t hyd u hu
  · intro x hx hxl hxe hxr
    rcases List.mem_cons.1 hx with rfl | hx
    · exact hqn hxe hxr
    · exact hqs x (h.qsr x hx hxl hxe hxr)

theorem nextQuiet_some {P : Program} {M : List Nat} {done : Nat} : ∀ {r : List Oper} {n i : Nat} {o : Oper}, nextQuiet P M done r n = some (i, o) →
    n ≤ i ∧ r[i - n]? = some o ∧ done.testBit i = false ∧ isHeavy P o = false ∧ subMask (mkAt M i) done = true
  | [], n, i, o, h => by simp [nextQuiet] at h
  | o' :: r, n, i, o, h => by
    simp only [nextQuiet] at h
    split at h
    · rename_i hc
      simp only [Option.some.injEq, Prod.mk.injEq] at h
      obtain ⟨rfl, rfl⟩ := h
      simp only [Bool.and_eq_true, Bool.not_eq_true'] at hc
      exact ⟨Nat.le_refl _, by simp, hc.1, hc.2.1, hc.2.2⟩
    · obtain ⟨h1, h2, h3⟩ := nextQuiet_some h
      refine ⟨by omega, ?_, h3⟩
      rw [show i - n = (i - (n + 1)) + 1 from by omega]
      simpa using h2

theorem nextQuiet_none {P : Program} {M : List Nat} {done : Nat} : ∀ {r : List Oper} {n : Nat}, nextQuiet P M done r n = none → ∀ k o, r[k]? = some o → done.testBit (n + k) = true ∨ isHeavy P o = true ∨ subMask (mkAt M (n + k)) done = false
  | [], n, h, k, o, hk => by simp at hk
  | o' :: r, n, h, k, o, hk => by
    simp only [nextQuiet] at h
    split at h
    · cases h
    · rename_i hc
      cases k with
      | zero =>
        simp only [List.getElem?_cons_zero, Option.some.injEq] at hk
        subst hk
        rw [Nat.add_zero]
        cases h1 : done.testBit n <;> cases h2 : isHeavy P o' <;> cases h3 : subMask (mkAt M n) done <;> simp [h1, h2, h3] at hc ⊢
      | succ k =>
        simp only [List.getElem?_cons_succ] at hk
        have := nextQuiet_none h k o hk
        rwa [show n + 1 + k = n + (k + 1) from by omega] at this

theorem mem_heavies {P : Program} {M : List Nat} {done : Nat} : ∀ {r : List Oper} {n k : Nat} {o : Oper}, r[k]? = some o → done.testBit (n + k) = false → isHeavy P o = true → subMask (mkAt M (n + k)) done = true → (n + k, o) ∈ heavies P M done r n
  | [], n, k, o, hk, _, _, _ => by simp at hk
  | o' :: r, n, k, o, hk, h1, h2, h3 => by
    cases k with
    | zero =>
      simp only [List.getElem?_cons_zero, Option.some.injEq] at hk
      subst hk
      simp only [Nat.add_zero] at h1 h3
      simp [heavies, h1, h2, h3]
    | succ k =>
      simp only [List.getElem?_cons_succ] at hk
      have ih := mem_heavies (P := P) (M := M) (done := done) (r := r) (n := n + 1) (k := k) hk (by rwa [show n + 1 + k = n + (k + 1) from by omega]) h2 (by rwa [show n + 1 + k = n + (k + 1) from by omega])
      rw [show n + 1 + k = n + (k + 1) from by omega] at ih
      simp only [heavies]
      split
      · exact List.mem_cons_of_mem _ ih
      · exact ih

/-- What is left of 'drawD' when all that computes or reads, and may be done, is done. -/
def Rest (P : Program) (ops : List Oper) (K : Env → Pr) (n done : Nat) (qs : List Ent) (e : Env) (w : World) : Prop :=
  (Nat.beq done (full ops.length) = true ∧ K e w) ∨
  allP ((heavies P (masks ops) done ops 0).map fun (i, o) => heavyStep P ops (masks ops) i o e qs (fun e => drawD P ops (masks ops) K n (done ||| 2 ^ i) qs e)) w

theorem advance {ds : List Deferred} {P : Program} {ops : List Oper} {K : Env → Pr} {listed : Array Bool} {a : Act} {w : World} (hok : drawOk ops = true) : ∀ (n : Nat) {tr : List Ent} {done : Nat} {qs : List Ent} {e : Env},
    drawD P ops (masks ops) K n done qs e w → DInv ds P ops listed a w tr done qs e →
    ∃ n' tr' done' qs' e', DInv ds P ops listed a w tr' done' qs' e' ∧ nextQuiet P (masks ops) done' ops 0 = none ∧ Rest P ops K n' done' qs' e' w := by
  intro n
  induction n with
  | zero => intro tr done qs e h _; exact h.elim
  | succ n ih =>
    intro tr done qs e h hi
    simp only [drawD] at h
    cases hn : nextQuiet P (masks ops) done ops 0 with
    | none =>
      rw [hn] at h
      refine ⟨n, tr, done, qs, e, hi, hn, ?_⟩
      simp only at h
      cases hb : Nat.beq done (full ops.length) with
      | true => rw [hb] at h; exact .inl ⟨hb, h⟩
      | false => rw [hb] at h; exact .inr h
    | some p =>
      obtain ⟨i, o⟩ := p
      rw [hn] at h
      simp only at h
      obtain ⟨_, ho, hd, hq, hm⟩ := nextQuiet_some hn
      rw [Nat.sub_zero] at ho
      obtain ⟨b, hb, hw⟩ := grdD_elim h
      cases b with
      | false =>
        simp only [Bool.false_eq_true, if_false] at hb
        exact ih hb (hi.quiet hok ho hd hq hm (v := undef) (ex := false) ⟨hw, by simp, by simp, by simp, by simp, fun _ => rfl⟩ (fun x hx => hx) (by simp))
      | true =>
        simp only [if_true] at hb
        split at hb
        · rename_i hk
          simp only [Bool.and_eq_true] at hk
          cases hr : isRead P o with
          | true =>
            simp only [hr] at hb
            have hc : cls P o = .read := by
              simp only [isRead] at hr
              split at hr
              · assumption
              · cases hr
            simp only [opD, hc] at hb
            obtain ⟨v, hv, hb⟩ := readD_sound hb
            exact ih hb (hi.quiet hok ho hd hq hm (v := v) (ex := true) ⟨hw, fun _ => hk.1, fun _ => hk.2, fun _ _ => hv, (fun _ hh => by rw [hr] at hh; cases hh), by simp⟩
              (fun x hx => List.mem_cons_of_mem _ hx) (fun _ _ => List.mem_cons_self))
          | false =>
            simp only [hr] at hb
            have hc : cls P o = .pure := by
              cases hcc : cls P o with
              | pure => rfl
              | read => simp [isRead, hcc] at hr
              | heavy => simp [isHeavy, hcc] at hq
            simp only [opD, hc] at hb
            obtain ⟨v, hv, hb⟩ := pureD_sound hb
            exact ih hb (hi.quiet hok ho hd hq hm (v := v) (ex := true) ⟨hw, fun _ => hk.1, fun _ => hk.2, (fun _ hh => by rw [hr] at hh; cases hh), fun _ _ => hv, by simp⟩
              (fun x hx => hx) (fun _ hh => by rw [hr] at hh; cases hh))
        · exact hb.elim

theorem again_elim {P : Program} {m : Nat} {K : Pr} {w : World} : ∀ {qs : List Ent}, again P m qs K w → K w ∧ ∀ q ∈ qs, m.testBit q.i = false → (execOp (rho q.e) q.o).run P w = .ok (.value q.v) w
  | [], h => ⟨h, fun q hq => by simp at hq⟩
  | q :: r, h => by
    simp only [again] at h
    cases hm : m.testBit q.i with
    | true =>
      rw [hm] at h
      obtain ⟨h1, h2⟩ := again_elim h
      refine ⟨h1, fun p hp hpm => ?_⟩
      rcases List.mem_cons.1 hp with rfl | hp
      · rw [hm] at hpm; cases hpm
      · exact h2 p hp hpm
    | false =>
      rw [hm] at h
      obtain ⟨h0, h⟩ := h
      obtain ⟨h1, h2⟩ := again_elim h
      obtain ⟨v, hv, he⟩ := readD_sound h0
      refine ⟨h1, fun p hp hpm => ?_⟩
      rcases List.mem_cons.1 hp with rfl | hp
      · rw [hv, he]
      · exact h2 p hp hpm

theorem Li_set {listed : Array Bool} {i k : Nat} (hi : i < listed.size) : Li (listed.setIfInBounds i true) k ↔ Li listed k ∨ k = i := by
  unfold Li
  by_cases h : i = k
  · subst h
    simp [hi]
  · rw [getD_set_ne false h]
    simp [Ne.symm h]

end Go.Sx
