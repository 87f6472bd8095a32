/-
  'pureD_sound'; the operations that read ('readD').
-/
import Derived.Test.YtmppjgddemlmdaaSxD
set_option linter.unusedSimpArgs false
set_option linter.unusedVariables false
namespace Go.Sx
open Go

theorem bounds_sound {P : Program} {isS : Bool} {len cap : Nat} {lo hi : Option Value} {K : Nat → Nat → Pr} {w : World} (h : bnd hi len cap (fun h => bnd lo 0 h fun l => K l h) w) :
    ∃ l h, (∀ w', (Instr.sliceBounds isS len cap lo hi none).run P w' = .ok (l, h, cap) w') ∧ K l h w := by
  cases hi with
  | none =>
    cases lo with
    | none => exact ⟨0, len, fun w' => by simp [Instr.sliceBounds], h⟩
    | some v =>
      simp only [bnd] at h
      cases v <;> simp only [F] at h <;> first | exact h.elim | skip
      exact ⟨_, len, fun w' => by simp [Instr.sliceBounds, Instr.sliceBound, asIntOf, h.1], h.2⟩
  | some u =>
    simp only [bnd] at h
    cases u <;> simp only [F] at h <;> first | exact h.elim | skip
    obtain ⟨hu, h⟩ := h
    cases lo with
    | none => exact ⟨0, _, fun w' => by simp [Instr.sliceBounds, Instr.sliceBound, asIntOf, hu], h⟩
    | some v =>
      simp only [bnd] at h
      cases v <;> simp only [F] at h <;> first | exact h.elim | skip
      refine ⟨_, _, fun w' => ?_, h.2⟩
      have h1 := h.1
      simp [Instr.sliceBounds, Instr.sliceBound, asIntOf, hu, h1]
      intro
      omega

theorem sliceD_sound {P : Program} {t : TypeId} {x : Value} {lo hi : Option Value} {K : Value → Pr} {w : World} (h : sliceD P t x lo hi K w) :
    ∃ v, (∀ w', (Instr.sliceAt t x lo hi none).run P w' = .ok v w') ∧ K v w := by
  simp only [sliceD] at h
  split at h
  · rename_i hu
    split at h
    · obtain ⟨l, u, hr, hk⟩ := bounds_sound (P := P) (isS := false) (K := fun l h => K (.string (_root_.ByteArray.extract _ l h))) h
      exact ⟨_, fun w' => by simp [Instr.sliceAt, Instr.slice, run_underlying hu, hr], hk⟩
    · exact h.elim
  · rename_i e hu
    split at h
    · rename_i a len cap
      split at h
      · rename_i inf hinf
        obtain ⟨l, u, hr, hk⟩ := bounds_sound (P := P) (isS := true) (K := fun l h => K (.slice (slOff a cap l inf.size) (h - l) (cap - l))) h
        exact ⟨_, fun w' => by simp [Instr.sliceAt, Instr.slice, run_underlying hu, hr, run_sizeOf' hinf, slOff], hk⟩
      · exact h.elim
    · exact h.elim
  · rename_i n e hu
    split at h
    · rename_i a
      split at h
      · rename_i inf hinf
        obtain ⟨l, u, hr, hk⟩ := bounds_sound (P := P) (isS := false) (K := fun l h => K (.slice (slOff (some a) n l inf.size) (h - l) (n - l))) h
        refine ⟨_, fun w' => ?_, hk⟩
        simp only [Instr.sliceAt, run_underlying hu, Sem.run_bind, Result.andThen_ok, Instr.sureAddr, Sem.run_pure, hr, run_sizeOf' hinf, slOff]
        split <;> rfl
      · exact h.elim
    · exact h.elim
  · exact h.elim

theorem slice3D_sound {P : Program} {t : TypeId} {x mx : Value} {lo hi : Option Value} {K : Value → Pr} {w : World} (h : slice3D P t x lo hi mx K w) :
    ∃ v, (∀ w', (Instr.sliceAt t x lo hi (some mx)).run P w' = .ok v w') ∧ K v w := by
  simp only [slice3D] at h
  split at h
  · rename_i e hu
    split at h
    · rename_i a len cap
      split at h
      · rename_i inf hinf
        split at h
        · rename_i hv
          simp only [bnd] at h
          cases mx <;> (try simp only [F] at h) <;> first | exact h.elim | skip
          rename_i km im
          obtain ⟨hm, h⟩ := h
          cases hv <;> (try simp only [F] at h) <;> first | exact h.elim | skip
          rename_i kh ih
          obtain ⟨hh, h⟩ := h
          cases lo with
          | none =>
            refine ⟨_, fun w' => ?_, h⟩
            simp only [Instr.sliceAt, Instr.slice, run_underlying hu, Sem.run_bind, Result.andThen_ok, Instr.sliceBounds, Instr.sliceBound, asIntOf, Sem.run_pure]
            rw [if_pos hm]
            simp only [Sem.run_pure, Result.andThen_ok]
            rw [if_pos hh]
            simp [run_sizeOf' hinf, slOff]
          | some lv =>
            (try simp only at h)
            cases lv <;> (try simp only [F] at h) <;> first | exact h.elim | skip
            rename_i kl il
            obtain ⟨hl, h⟩ := h
            refine ⟨_, fun w' => ?_, h⟩
            simp only [Instr.sliceAt, Instr.slice, run_underlying hu, Sem.run_bind, Result.andThen_ok, Instr.sliceBounds, Instr.sliceBound, asIntOf, Sem.run_pure]
            rw [if_pos hm]
            simp only [Sem.run_pure, Result.andThen_ok]
            rw [if_pos hh]
            simp only [Sem.run_pure, Result.andThen_ok]
            rw [if_pos hl]
            simp [run_sizeOf' hinf, slOff]
        · exact h.elim
      · exact h.elim
    · exact h.elim
  · exact h.elim

theorem nilCheckD_sound {P : Program} {x : Operand} {o : Oper} (ho : o.op = .nilCheck x) {ρ : Operand → Value} {K : Value → Pr} {w : World} (h : nilCheckD (ρ x) K w) : DoesP P o ρ K w := by
  have nn : ∀ v, ρ x = v → NnV v K w → DoesP P o ρ K w := by
    intro v hv h
    obtain ⟨h1, h⟩ := h
    refine ⟨v, fun w' => ?_, h⟩
    unfold execOp
    rw [ho]
    simp only [hv]
    cases v <;> first
      | rfl
      | (simp [okNil] at h1; done)
      | (rename_i p; cases p <;> first | rfl | (simp [okNil] at h1; done))
      | (rename_i fn _ _; cases fn <;> first | rfl | (simp [okNil] at h1; done))
  generalize hv : ρ x = v at h
  cases v <;> simp only [nilCheckD] at h <;> first | exact nn _ hv h | skip
  rename_i p
  cases p with
  | none => exact h.elim
  | some a =>
    refine ⟨_, fun w' => ?_, h⟩
    unfold execOp
    rw [ho]
    simp [hv]

theorem pureD_sound {P : Program} {o : Oper} {ρ : Operand → Value} {K : Value → Pr} {w : World} (h : pureD P o ρ K w) : DoesP P o ρ K w := by
  have lift : ∀ {s : Sem Value} (he : execOp ρ o = (do pure (.value (← s)))), (∃ v, (∀ w', s.run P w' = .ok v w') ∧ K v w) → DoesP P o ρ K w := by
    intro s he ⟨v, hv, hk⟩
    exact ⟨v, fun w' => by rw [he]; simp [hv], hk⟩
  unfold pureD at h
  split at h
  · rename_i x ho; exact ⟨_, fun w' => by simp [execOp, ho], h⟩
  · rename_i x ho; exact ⟨_, fun w' => by simp [execOp, ho], h⟩
  · rename_i c a b ho
    split at h
    · rename_i t ht
      cases t
      · exact ⟨_, fun w' => by simp [execOp, ho, ht, asBool], h⟩
      · exact ⟨_, fun w' => by simp [execOp, ho, ht, asBool], h⟩
    · exact h.elim
  · rename_i x ho; exact nilCheckD_sound ho h
  · rename_i op t x y _ ho
    exact lift (by unfold execOp; rw [ho]) (binD_sound (xo := x) h)
  · rename_i op _ x ho
    exact lift (by unfold execOp; rw [ho]) (unD_sound h)
  · rename_i src dst x ho
    exact lift (by unfold execOp; rw [ho]) (convD_sound h)
  · rename_i t x ho
    split at h
    · rename_i hc
      exact lift (by unfold execOp; rw [ho]) ⟨_, fun w' => run_makeInterface w' t (ρ x) hc, h⟩
    · exact h.elim
  · rename_i fn first cap ho
    refine lift (by unfold execOp; rw [ho]) ⟨_, fun w' => ?_, h⟩
    simp only [Instr.makeFunc, Sem.run_pure]
    congr 2 <;> (apply Array.toList_inj.1; simp)
  · rename_i t parts ho
    rw [← evs_eq] at h
    exact lift (by unfold execOp; rw [ho]) (buildD_sound h)
  · rename_i t x lo hi mx ho
    cases mx with
    | none =>
      simp only at h
      refine lift (s := Instr.sliceAt t (ρ x) (lo.map ρ) (hi.map ρ) none) (by unfold execOp; rw [ho]; rfl) ?_
      have := sliceD_sound h
      cases lo <;> cases hi <;> exact this
    | some m =>
      simp only at h
      refine lift (s := Instr.sliceAt t (ρ x) (lo.map ρ) (hi.map ρ) (some (ρ m))) (by unfold execOp; rw [ho]; rfl) ?_
      have := slice3D_sound h
      cases lo <;> cases hi <;> exact this
  · rename_i t x i ho
    exact lift (by unfold execOp; rw [ho]) (fieldD_sound h)
  · rename_i t x i ho
    exact lift (by unfold execOp; rw [ho]) (fieldAddrD_sound h)
  · rename_i t x i ho
    exact lift (by unfold execOp; rw [ho]) (indexAddrD_sound h)
  · rename_i t x i ho
    exact lift (by unfold execOp; rw [ho]) (indexD_sound h)
  · rename_i x i ho
    split at h
    · rename_i vs hvs
      split at h
      · rename_i v hv
        have hv' : vs[i]? = some v := by simpa using hv
        exact lift (by unfold execOp; rw [ho]) ⟨v, fun w' => by simp [Instr.extract, hvs, hv'], tyD_elim h⟩
      · exact h.elim
    · exact h.elim
  · rename_i t x ho
    split at h
    · rename_i n e hu
      split at h
      · rename_i a l c hx
        have h1 := h.1
        replace h := h.2
        cases a with
        | none => exact h.elim
        | some a => exact lift (by unfold execOp; rw [ho]) ⟨_, fun w' => by simp [Instr.arrayAt, run_underlying hu, hx, Nat.not_lt.2 h1], h⟩
      · exact h.elim
    · exact h.elim
  · rename_i c ho
    split at h
    · rename_i b hb
      have hx : ∀ {s : Sem Value}, builtin b c.argTypes o.type (c.args.map fun | .const _ => true | _ => false) (c.args.map ρ) = (do pure (.value (← s))) → execOp ρ o = (do pure (.value (← s))) := by
        intro s hs
        unfold execOp
        rw [ho]
        simp only [resolve, hb, pure_bind, invoke]
        rw [← hs]
        rfl
      split at h
      · split at h
        · rename_i t ht
          split at h
          · rename_i x hxs
            have e1 : c.argTypes = #[t] := Array.toList_inj.1 (by simpa using ht)
            have e2 : c.args = #[x] := Array.toList_inj.1 (by simpa using hxs)
            exact lift (hx (s := Builtin.len_ #[t] o.type #[ρ x]) (by rw [e1, e2]; simp [builtin])) (lenD_sound h _)
          · exact h.elim
        · exact h.elim
      · split at h
        · rename_i t ht
          split at h
          · rename_i x hxs
            have e1 : c.argTypes = #[t] := Array.toList_inj.1 (by simpa using ht)
            have e2 : c.args = #[x] := Array.toList_inj.1 (by simpa using hxs)
            exact lift (hx (s := Builtin.cap_ #[t] o.type #[ρ x]) (by rw [e1, e2]; simp [builtin])) (capD_sound h _)
          · exact h.elim
        · exact h.elim
      · split at h
        · rename_i x y hxs
          have e2 : c.args = #[x, y] := Array.toList_inj.1 (by simpa using hxs)
          exact lift (hx (s := Builtin.max_ c.argTypes o.type #[ρ x, ρ y]) (by rw [e2]; simp [builtin])) (minmaxD_sound h _ _)
        · exact h.elim
      · split at h
        · rename_i x y hxs
          have e2 : c.args = #[x, y] := Array.toList_inj.1 (by simpa using hxs)
          exact lift (hx (s := Builtin.min_ c.argTypes o.type #[ρ x, ρ y]) (by rw [e2]; simp [builtin])) (minmaxD_sound h _ _)
        · exact h.elim
      · exact h.elim
    · exact h.elim
  · exact h.elim

end Go.Sx
