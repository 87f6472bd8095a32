/- The library's functions that change a slice of asks: Delete, Insert, Clone, Concat; Compact of numbers. Conditions: none. -/
import Derived.Test.YtmppjgddemlmdaaCls
import Derived.Lib.Overlaps
set_option linter.unusedVariables false
set_option linter.unusedSimpArgs false
namespace Go.Proofs.Ytmppjgddemlmdaa
open Go Go.Sx

theorem Clone_ok {w : World} {s : Sl} {l : List Ak} (h : As w s l) (hN : l.length ≤ 1000) :
    Cl Try.prog i_slices_Clone [.slice s.p s.len s.cap] false [.sc .sl] (fun r w' => As w' r.1 l ∧ (∀ x ∈ blk r.1, w.heap.size ≤ x) ∧ Keeps [] w w') w := by
  refine Cl_gen fun R hR => ?_
  have hl := as_len h
  apply slices_Clone_call
  unfold slices_Clone
  refine Clone_w (K := fun r => R (r, ())) (by kernel_rfl) (by omega) h.rdc (cAs_one l) (by omega) (by omega) ?_
  intro r w' h1 _ h3 h4
  exact hR (r, ()) _ ⟨h1, h4, h3⟩

/-- 'slices.Delete(s, i, i+1)'. -/
theorem Delete_ok {w : World} {s : Sl} {l : List Ak} (h : As w s l) {i : Nat} (hi : i < l.length) (hN : l.length ≤ 1000) {y z : Int} (hy : y = (i : Int)) (hz : z = ((i + 1 : Nat) : Int)) :
    Cl Try.prog i_slices_Delete [.slice s.p s.len s.cap, .int .i64 y, .int .i64 z] false [.sc .sl] (fun r w' => As w' r.1 (l.eraseIdx i) ∧ (∀ x ∈ blk r.1, x ∈ blk s) ∧ Keeps (blk s) w w') w := by
  subst hy hz
  refine Cl_gen fun R hR => ?_
  have hl := as_len h
  have hc := h.cap
  apply slices_Delete_call
  unfold slices_Delete
  refine ⟨⟨by omega, by omega⟩, ?_⟩
  simp only [Int.toNat_natCast]
  refine ⟨⟨by omega, by omega⟩, ⟨by omega, by omega⟩, ?_⟩
  rw [show ((i : Int) == ((i + 1 : Nat) : Int)) = false from by simp; omega]
  simp only [Br, Dr]
  refine ⟨⟨by omega, by omega⟩, ⟨by omega, by omega⟩, ?_⟩
  have k1 : Keeps [] w w.drew := (Keeps.refl _ _).drew
  have h1 : As w.drew s l := h.keeps k1 (by simp)
  rw [slOff_zero, Nat.sub_zero, Nat.sub_zero]
  have hs := h1.sub (lo := i + 1) (hi := s.len) (by omega) (Nat.le_refl _)
  have hsr := hs.rdc
  dsimp only at hsr
  have hd : ((l.flatMap cA).drop ((i + 1) * 4)).take ((s.len - (i + 1)) * 4) = (l.drop (i + 1)).flatMap cA := by
    rw [flatA_drop, List.take_of_length_le (by rw [flatA_len, List.length_drop]; omega)]
  rw [hd] at hsr
  have hf := slc_front h1 (i := i) (by omega)
  rw [flatA_take] at hf
  by_cases h0 : 0 < i + (s.len - (i + 1))
  · refine App_in (new := (l.drop (i + 1)).flatMap cA) hf hsr (by rw [flatA_len, List.length_drop, hl]) (cAs_one _) (by show i + (s.len - (i + 1)) ≤ s.cap; omega) h0 ?_
    intro w2 h2 k2
    dsimp only at h2 k2 ⊢
    rw [← List.flatMap_append] at h2
    refine ⟨⟨by omega, by omega⟩, ⟨by omega, by omega⟩, ?_⟩
    obtain ⟨junk, hj, hg⟩ := slc_grow h2 (m := 1) (by show i + (s.len - (i + 1)) + 1 ≤ s.cap; omega)
    dsimp only at hg
    have e1 : i + (s.len - (i + 1)) + 1 = s.len := by omega
    rw [e1] at hg
    have k3 := ClrS_front hg (z := zc Try.prog 48) (by kernel_rfl) zc48 (i := i + (s.len - (i + 1))) (by show _ ≤ s.len; omega) (K := R (⟨s.p, i + (s.len - (i + 1)), s.cap⟩, ())) ?_
    · exact k3
    · intro w3 h3 kk3 _
      refine hR _ _ ⟨?_, fun x hx => hx, ((k1.mono (m' := blk s) (by simp)).trans k2 (fun _ hx => .inl hx)).trans kk3 (fun _ hx => .inl hx)⟩
      have e2 : ((l.take i ++ l.drop (i + 1)).flatMap cA).length = (i + (s.len - (i + 1))) * 4 := by
        rw [flatA_len, List.length_append, List.length_take, List.length_drop]
        congr 1
        omega
      rw [List.take_append_of_le_length (by omega), List.take_of_length_le (by omega), ← List.eraseIdx_eq_take_drop_succ] at h3
      exact h3
  · have hi0 : i = 0 := by omega
    have hl1 : s.len = 1 := by omega
    have hld : (l.drop (i + 1)) = [] := List.drop_of_length_le (by omega)
    subst hi0
    rw [hld] at hsr
    obtain ⟨b, o, hp, hb⟩ := h1.base (by omega)
    refine ⟨[], by rw [hl1] at hsr ⊢; exact hsr, ?_⟩
    rw [if_pos (by dsimp only; omega), hp]
    dsimp only [StR]
    rw [hl1]
    refine ⟨⟨by omega, by simp; omega⟩, ⟨by simp, by simp⟩, ?_⟩
    have k3 := ClrS_front (s := s) h1 (z := zc Try.prog 48) (by kernel_rfl) zc48 (i := 0) (by omega) (K := R (⟨s.p, 0, s.cap⟩, ())) ?_
    · rw [hp, hl1] at k3
      simpa using k3
    · intro w3 h3 kk3 _
      refine hR _ _ ⟨?_, fun x hx => hx, (k1.mono (m' := blk s) (by simp)).trans kk3 (fun _ hx => .inl hx)⟩
      rw [List.eraseIdx_eq_take_drop_succ, hld]
      show SlC w3 _ 4 []
      simpa using h3

theorem Br_false {T E : Pr} {w : World} : Br false T E w = E w := rfl
theorem ins_get {T X D : List Value} {i n : Nat} (hT : T.length = (n + 1) * 4) (hi : i ≤ n) (hX : X.length = 4) (hD : D.length = (n - i) * 4) (j : Nat) :
    (T.take (i * 4) ++ X ++ D)[j]? = if i * 4 ≤ j ∧ j < i * 4 + 4 then X[j - i * 4]? else if (i + 1) * 4 ≤ j then D[j - (i + 1) * 4]? else T[j]? := by
  have hk : (T.take (i * 4)).length = i * 4 := by simp; omega
  by_cases h1 : j < i * 4
  · rw [if_neg (by omega), if_neg (by omega), List.append_assoc, List.getElem?_append_left (by omega), List.getElem?_take, if_pos h1]
  · by_cases h2 : j < i * 4 + 4
    · rw [if_pos (by omega), List.getElem?_append_left (by rw [List.length_append]; omega), List.getElem?_append_right (by omega), hk]
    · rw [if_neg (by omega), if_pos (by omega), List.getElem?_append_right (by rw [List.length_append]; omega)]
      congr 1
      rw [List.length_append]
      omega
theorem ins1 {T X D : List Value} {i n : Nat} (hT : T.length = (n + 1) * 4) (hi : i ≤ n) (hX : X.length = 4) (hD : D.length = (n - i) * 4) : setL (setL T ((i + 1) * 4) D) (i * 4) X = T.take (i * 4) ++ X ++ D := by
  have e1 : (setL T ((i + 1) * 4) D).length = T.length := setL_length (by omega)
  apply List.ext_getElem?
  intro j
  rw [ins_get hT hi hX hD, setL_get (by omega), setL_get (by omega), hX]
  by_cases h1 : i * 4 ≤ j ∧ j < i * 4 + 4
  · rw [if_pos h1, if_pos h1]
  · rw [if_neg h1, if_neg h1]
    by_cases h2 : (i + 1) * 4 ≤ j
    · rw [if_pos h2]
      by_cases h3 : j < (i + 1) * 4 + D.length
      · rw [if_pos ⟨h2, h3⟩]
      · rw [if_neg (by omega), List.getElem?_eq_none (by omega), List.getElem?_eq_none (by omega)]
    · rw [if_neg (by omega), if_neg h2]
theorem ins2 {T X D : List Value} {i n : Nat} (hT : T.length = (n + 1) * 4) (hi : i ≤ n) (hX : X.length = 4) (hD : D.length = (n - i) * 4) : setL (setL T (i * 4) X) ((i + 1) * 4) D = T.take (i * 4) ++ X ++ D := by
  have e1 : (setL T (i * 4) X).length = T.length := setL_length (by omega)
  apply List.ext_getElem?
  intro j
  rw [ins_get hT hi hX hD, setL_get (by omega), setL_get (by omega), hX]
  by_cases h2 : (i + 1) * 4 ≤ j
  · rw [if_neg (c := i * 4 ≤ j ∧ j < i * 4 + 4) (by omega), if_neg (c := i * 4 ≤ j ∧ j < i * 4 + 4) (by omega), if_pos h2]
    by_cases h3 : j < (i + 1) * 4 + D.length
    · rw [if_pos ⟨h2, h3⟩]
    · rw [if_neg (by omega), List.getElem?_eq_none (by omega), List.getElem?_eq_none (by omega)]
  · rw [if_neg (c := (i + 1) * 4 ≤ j ∧ _) (by omega), if_neg h2]
theorem ex58 {w : World} {a b o la ca lb cb : Nat} {cs all : Array Value} {t : TypeId} {fr : Nat × Nat} (ha : w.heap[a]? = some (.cells cs 48 (0, 0))) (hb : w.heap[b]? = some (.cells all t fr)) (hne : a ≠ b) (h0 : all.size ≠ 0) {K : TR [.sc .b] → Pr} (h : K (false, ()) w) :
    Ex Try.prog 58 [.slice (some ⟨a, 0, none⟩) la ca, .slice (some ⟨b, o, none⟩) lb cb] false [.sc .b] K w := by
  refine ⟨(false, ()), w, ?_, h⟩
  rw [show ([Value.slice (some ⟨a, 0, none⟩) la ca, .slice (some ⟨b, o, none⟩) lb cb] : List Value).toArray = #[.slice (some ⟨a, 0, none⟩) la ca, .slice (some ⟨b, o, none⟩) lb cb] from rfl,
    run_callFunc_extern Try.func58 (by kernel_rfl) (by kernel_rfl) (by kernel_rfl) (e := Extern.SlicesOverlaps.overlaps #[40, 40] #[4]) (by kernel_rfl),
    Lib.run_overlaps_apart w 40 4 48 (by kernel_rfl) 4 (fun w => by kernel_rfl) ⟨a, 0, none⟩ ⟨b, o, none⟩ la ca lb cb hne 48 t cs.size all.size (by simp [World.shape?, ha]) (by simp [World.shape?, hb]) h0 (by simp [World.frozen?, ha]) (by simp [World.frozen?, ha])]
  rfl

/-- 'slices.Insert(s, i, x)'. -/
theorem Insert_ok {w : World} {s : Sl} {l : List Ak} (h : As w s l) {a : Nat} {x : Ak} (ha : w.heap[a]? = some (.cells #[.int .u64 x.n, .string x.lo, .string x.hi, .bool x.wr] 48 (0, 0))) (hna : a ∉ blk s) {i : Nat} (hi : i ≤ l.length) (hN : l.length ≤ 1000) :
    Cl Try.prog i_slices_Insert [.slice s.p s.len s.cap, .int .i64 (i : Int), .slice (some ⟨a, 0, none⟩) 1 1] false [.sc .sl]
      (fun r w' => As w' r.1 (l.take i ++ x :: l.drop i) ∧ (∀ y ∈ blk r.1, y ∈ blk s ∨ w.heap.size ≤ y) ∧ Keeps (blk s) w w') w := by
  refine Cl_gen fun R hR => ?_
  have hl := as_len h
  have hc := h.cap
  have hsrc : ∀ w', w'.heap[a]? = some (.cells #[.int .u64 x.n, .string x.lo, .string x.hi, .bool x.wr] 48 (0, 0)) → srcS (some ⟨a, 0, none⟩) 1 4 (cA x) w' := fun w' ha => ⟨rfl, fun j v hj => ⟨_, rfl, by rw [add_of, cell_of ha, Nat.zero_add]; simpa [cA] using hj⟩⟩
  refine slices_Insert_call s (i : Int) ⟨some ⟨a, 0, none⟩, 1, 1⟩ ?_
  unfold slices_Insert
  dsimp only
  refine ⟨⟨by omega, by omega⟩, ?_⟩
  rw [show (((1 : Nat) : Int) == 0) = false from rfl]
  simp only [Br_false]
  have hin : ∀ l' : List Ak, (l'.take i ++ x :: l'.drop i).flatMap cA = (l'.take i).flatMap cA ++ cA x ++ (l'.drop i).flatMap cA := by intro l'; simp
  by_cases hil : i = s.len
  · rw [show ((i : Int) == ((s.len : Nat) : Int)) = true from by simp [hil]]
    simp only [Br_true]
    refine App_of h (hsrc w ha) (by rw [cA_len]) (cA_one x) (by kernel_rfl) (by omega) (by omega) ?_
    intro r w' h1 _ h3 h4
    refine hR (r, ()) _ ⟨?_, h4, h3⟩
    show SlC w' r 4 _
    rw [hin, List.take_of_length_le (by omega), List.drop_of_length_le (by omega)]
    simpa using h1
  · rw [show ((i : Int) == ((s.len : Nat) : Int)) = false from by simp; omega]
    simp only [Br_false]
    rw [show w64 (((s.len : Nat) : Int) + ((1 : Nat) : Int)) = ((s.len + 1 : Nat) : Int) from by rw [w64_in (by omega) (by omega)]; omega, show w64 ((i : Int) + ((1 : Nat) : Int)) = ((i + 1 : Nat) : Int) from by rw [w64_in (by omega) (by omega)]; omega]
    have hrest : ∀ w', As w' s l → RdC (slOff s.p s.cap i 4) ((s.len - i) * 4) ((l.drop i).flatMap cA) w' := by
      intro w' h'
      have := (h'.sub (lo := i) (hi := s.len) (by omega) (Nat.le_refl _)).rdc
      dsimp only at this
      rwa [flatA_drop, List.take_of_length_le (by rw [flatA_len, List.length_drop]; omega)] at this
    have hdl : ((l.drop i).flatMap cA).length = (s.len - i) * 4 := by rw [flatA_len, List.length_drop, hl]
    by_cases hcap : s.cap < s.len + 1
    · rw [decide_eq_true (by omega)]
      simp only [Br_true]
      refine ⟨⟨by omega, by omega⟩, ?_⟩
      simp only [slOff_zero, Nat.sub_zero, Int.toNat_natCast]
      rw [show w64 (((s.len + 1 : Nat) : Int) - (i : Int)) = ((s.len + 1 - i : Nat) : Int) from by rw [w64_in (by omega) (by omega)]; omega]
      refine ⟨by omega, by omega, by omega, ?_⟩
      rw [Int.toNat_natCast]
      have hf := slc_front h (i := i) (by omega)
      refine App_new (new := zerosL (zc Try.prog 48).toList (s.len + 1 - i)) hf.rdc ?_ ?_ (oneZ zc48 _) (by kernel_rfl) (by dsimp only; omega) (by dsimp only; omega) (by dsimp only; omega) ?_
      · show _ = _
        rw [if_neg (by omega), zeroCells_eq]
      · rw [zerosL_length, zc48e]; rfl
      · intro r w1 h1 hr k1 hb1
        dsimp only at hr
        have hr' : r.len = s.len + 1 := by omega
        refine ⟨⟨by omega, by omega⟩, ?_⟩
        rw [show Nat.min 1 (r.len - i) = 1 from by rw [hr']; exact Nat.min_eq_left (by omega)]
        refine Cpy_of (s := r) h1 (hsrc w1 (k1.at ha (by simp))) (by rw [cA_len]) (cA_one x) (by omega) (by omega) ?_
        intro w2 h2 k2
        simp only [Dr]
        have kd : Keeps [] w2 w2.drew := (Keeps.refl _ _).drew
        have h2d := h2.keeps kd (by simp)
        refine ⟨⟨by omega, by omega⟩, ⟨by omega, by omega⟩, ?_⟩
        rw [show Nat.min (s.len - i) (r.len - (i + 1)) = s.len - i from by rw [hr']; exact Nat.min_eq_left (by omega)]
        have ksr : Keeps [] w w2.drew := (kpx k1 k2 hb1).drew
        refine Cpy_of h2d (hrest _ (h.keeps ksr (by simp))) hdl (cAs_one _) (by omega) (by omega) ?_
        intro w3 h3 k3
        refine hR (r, ()) _ ⟨?_, fun y hy => .inr (hb1 y hy), (kpx ksr k3 hb1).mono (by simp)⟩
        show SlC w3 r 4 _
        rw [ins2 (n := s.len) (by rw [List.length_append, zerosL_length, List.length_take, flatA_len, zc48e]; show min (i * 4) (l.length * 4) + (s.len + 1 - i) * 4 = _; omega) (by omega) (cA_len x) hdl] at h3
        rw [hin, ← flatA_take]
        rw [List.take_append_of_le_length (by rw [List.length_take, flatA_len]; omega), List.take_take, Nat.min_self] at h3
        exact h3
    · rw [decide_eq_false (by omega)]
      simp only [Br_false]
      refine ⟨⟨by omega, by omega⟩, ?_⟩
      simp only [slOff_zero, Nat.sub_zero, Int.toNat_natCast]
      refine ⟨⟨by omega, by omega⟩, ?_⟩
      obtain ⟨junk, hj, hg⟩ := slc_grow h (m := 1) (by omega)
      obtain ⟨b, o, hp, hb⟩ := h.base (by omega)
      have hoff : slOff s.p s.cap (i + 1) 4 = some ⟨b, o + (i + 1) * 4, none⟩ := by
        have hne : s.cap ≠ i + 1 := by omega
        simp [slOff, hne, hp, add_of]
      obtain ⟨b', o', all, t, fr, hp', hbl, g1, _⟩ := h.row.resolve_left (by omega)
      rw [hp, Option.some.injEq, Addr.mk.injEq] at hp'
      obtain ⟨rfl, rfl, _⟩ := hp'
      have hab : a ≠ b := by rw [hb] at hna; simpa using hna
      have key : ∀ w0, Keeps [] w w0 → Cpy 4 (slOff s.p s.cap (i + 1) 4) (Nat.min (s.len + 1 - i) (s.len + 1 - (i + 1))) (srcS (slOff s.p s.cap i 4) (Nat.min (s.len + 1 - i) (s.len + 1 - (i + 1))) 4)
          (Req ((0 : Int) ≤ (i : Int) ∧ (i : Int) ≤ ((s.len + 1 : Nat) : Int)) <| Cpy 4 (slOff s.p s.cap i 4) (Nat.min 1 (s.len + 1 - i)) (srcS (some ⟨a, 0, none⟩) (Nat.min 1 (s.len + 1 - i)) 4) (R (⟨s.p, s.len + 1, s.cap⟩, ()))) w0 := by
        intro w0 k0
        rw [show Nat.min (s.len + 1 - i) (s.len + 1 - (i + 1)) = s.len - i from by rw [show Nat.min _ _ = min _ _ from rfl]; omega, show Nat.min 1 (s.len + 1 - i) = 1 from Nat.min_eq_left (by omega)]
        refine Cpy_of (s := ⟨s.p, s.len + 1, s.cap⟩) (i := i + 1) (hg.keeps k0 (by simp)) (hrest _ (h.keeps k0 (by simp))) hdl (cAs_one _) (by omega) (by dsimp only; omega) ?_
        intro w1 h1 k1
        refine ⟨⟨by omega, by omega⟩, ?_⟩
        have k01 : Keeps (blk s) w w1 := (k0.mono (by simp)).trans k1 (fun _ hx => .inl hx)
        refine Cpy_of (s := ⟨s.p, s.len + 1, s.cap⟩) (i := i) h1 (hsrc w1 (k01.at ha hna)) (by rw [cA_len]) (cA_one x) (by omega) (by dsimp only; omega) ?_
        intro w2 h2 k2
        refine hR _ _ ⟨?_, fun y hy => .inl hy, k01.trans k2 (fun _ hx => .inl hx)⟩
        show SlC w2 _ 4 _
        rw [ins1 (n := s.len) (by rw [List.length_append, flatA_len, hj]; omega) (by omega) (cA_len x) hdl, List.take_append_of_le_length (by rw [flatA_len]; omega), flatA_take, ← hin] at h2
        exact h2
      have key2 := key w.drew ((Keeps.refl [] w).drew)
      rw [hoff] at key2 ⊢
      refine ex58 ha hbl hab (by omega) ?_
      simp only [Bool.not_false, Br_true, Dr]
      refine ⟨⟨by omega, by omega⟩, ⟨by omega, by omega⟩, ?_⟩
      exact key2
end Go.Proofs.Ytmppjgddemlmdaa
