/- The lock table: Holds, Waiting, Txns, Clone. Conditions: none. -/
import Derived.Test.YtmppjgddemlmdaaTbk
set_option linter.unusedVariables false
set_option linter.unusedSimpArgs false
namespace Go.Proofs.Ytmppjgddemlmdaa
open Go Go.Sx

def cL (x : Ak) : List Value := [.string x.lo, .string x.hi, .bool x.wr]
theorem cL_len (x : Ak) : (cL x).length = 3 := rfl
theorem cL_one (x : Ak) : ∀ v ∈ cL x, v.oneCell' = true := by simp [cL, Value.oneCell']
abbrev Ls (w : World) (s : Sl) (l : List Ak) : Prop := SlC w s 3 (l.flatMap cL)
theorem ls_len {w : World} {s : Sl} {l : List Ak} (h : Ls w s l) : s.len = l.length := SlC.slen cL_len (by omega) h
def holdsA (n : Int) (s : TS) : List Ak := s.held.filter (fun x => x.n == n)
def txnsA (s : TS) : List Int := setA ((s.held ++ s.wait).map (·.n))
theorem zc30e : zc Try.prog 30 = #[.string (BA []), .string (BA []), .bool false] := by kernel_rfl

theorem Holds_ok {w : World} {t : Nat} {H : Nat → Prop} {s : TS} (h : TAt w t H s) (ho : TOk s) (n : Int) :
    Cl Try.prog i_locks_Table_Holds [.pointer (some ⟨t, 0, none⟩), .int .u64 n] false [.sc .sl] (fun r w' => Ls w' r.1 (holdsA n s) ∧ (∀ y ∈ blk r.1, w.heap.size ≤ y) ∧ Keeps [] w w') w := by
  obtain ⟨sh, sw, h⟩ := h
  have hfew := ho.few
  have hlh := as_len h.h
  refine Cl_gen fun R hR => ?_
  apply locks_Table_Holds_call
  unfold locks_Table_Holds
  simp only [sxn, h.hd, sxl, Nat.reduceAdd]
  refine ⟨fun k st w' => ∃ (i : Nat) (r : Sl), st = (r, (i : Int), ()) ∧ k = s.held.length - i ∧ i ≤ s.held.length ∧ Ls w' r ((s.held.take i).filter (fun x => x.n == n)) ∧ (∀ y ∈ blk r, w.heap.size ≤ y) ∧ Keeps [] w w', ⟨_, 0, ⟨none, 0, 0⟩, rfl, rfl, by omega, SlC.nil _ 3, by simp [blk], Keeps.refl _ _⟩, ?_⟩
  rintro k _ w1 ⟨i, r, rfl, rfl, hi, h1, hb1, k1⟩
  dsimp only
  have g1 := h.keeps0 k1
  have hl1 := ls_len h1
  have hfl := List.length_filter_le (fun x : Ak => x.n == n) (s.held.take i)
  rw [List.length_take] at hfl
  by_cases hlt : i < s.held.length
  · rw [decide_eq_true (by omega)]
    simp only [Br_true]
    obtain ⟨y, hy⟩ : ∃ y, s.held[i]? = some y := ⟨_, List.getElem?_eq_getElem hlt⟩
    have hsucc : (s.held.take (i + 1)).filter (fun x => x.n == n) = (s.held.take i).filter (fun x => x.n == n) ++ (if y.n == n then [y] else []) := by
      rw [List.take_add_one, hy, List.filter_append]
      congr 1
      cases hc : y.n == n <;> simp [hc]
    refine Jp_of (fun st w' => ∃ r', st = (r', ()) ∧ Ls w' r' ((s.held.take (i + 1)).filter (fun x => x.n == n)) ∧ (∀ y ∈ blk r', w.heap.size ≤ y) ∧ Keeps [] w w') (fun J hJ => ?_) ?_
    rotate_left
    · rintro _ w2 ⟨r', rfl, h2, hb2, k2⟩
      exact ⟨s.held.length - (i + 1), by omega, i + 1, r', by rw [w64p (by omega)], rfl, by omega, h2, hb2, k2⟩
    refine as_ld g1.h hy ?_
    refine bx4 fun b w2 hb nb k2 => ?_
    simp only [sxn, hb, sxl, Nat.reduceAdd]
    have k02 := kp0 k1 k2
    have h2 := h1.keeps k2 (by simp)
    cases hc : y.n == n with
    | false =>
      refine hJ (r, ()) _ ⟨r, rfl, ?_, hb1, k02⟩
      rw [hsucc, hc, if_neg (by simp), List.append_nil]
      exact h2
    | true =>
      simp only [sxn, hb, sxl, Nat.reduceAdd]
      refine NewApp_of (bytes := 40) (new := cL y) h2 (by rw [cL_len]) (cL_one y) (by kernel_rfl) (by omega) (by omega) ?_
      intro r3 w3 h3 _ k3 hb3
      refine hJ (r3, ()) _ ⟨r3, rfl, ?_, fun z hz => ?_, kpx k02 k3 hb1⟩
      · rw [hsucc, hc, if_pos rfl]
        show SlC _ _ _ _
        rw [List.flatMap_append]
        simpa using h3
      · rcases hb3 z hz with h' | h'
        · exact hb1 z h'
        · have := k02.size; omega
  · rw [decide_eq_false (by omega)]
    rw [List.take_of_length_le (by omega)] at h1
    exact hR (r, ()) _ ⟨h1, hb1, k1⟩

theorem Waiting_ok {w : World} {t : Nat} {H : Nat → Prop} {s : TS} (h : TAt w t H s) (ho : TOk s) :
    Cl Try.prog i_locks_Table_Waiting [.pointer (some ⟨t, 0, none⟩)] false [.sc .sl] (fun r w' => As w' r.1 s.wait ∧ (∀ y ∈ blk r.1, w.heap.size ≤ y) ∧ Keeps [] w w') w := by
  obtain ⟨sh, sw, h⟩ := h
  have hfew := ho.few
  refine Cl_gen fun R hR => ?_
  apply locks_Table_Waiting_call
  unfold locks_Table_Waiting
  simp only [sxn, h.hd, sxl, Nat.reduceAdd]
  refine Cl.mono (Clone_ok h.w (by omega)) ?_
  rintro ⟨r, _⟩ w1 h1
  exact hR (r, ()) _ h1

theorem Txns_ok {w : World} {t : Nat} {H : Nat → Prop} {s : TS} (h : TAt w t H s) (ho : TOk s) :
    Cl Try.prog i_locks_Table_Txns [.pointer (some ⟨t, 0, none⟩)] false [.sc .sl] (fun r w' => SlC w' r.1 1 (cU (txnsA s)) ∧ (∀ y ∈ blk r.1, w.heap.size ≤ y) ∧ Keeps [] w w') w := by
  obtain ⟨sh, sw, h⟩ := h
  have hfew := ho.few
  refine Cl_gen fun R hR => ?_
  apply locks_Table_Txns_call
  unfold locks_Table_Txns
  simp only [sxn, h.hd, sxl, Nat.reduceAdd]
  have kd : Keeps [] w w.drew := (Keeps.refl _ _).drew
  refine New_bx fun q w1 hq nq k1 => ?_
  have k01 := kp0 kd k1
  have g1 := h.keeps0 k01
  refine Cl.mono (Concat_ok hq g1.h g1.w (by omega)) ?_
  rintro ⟨c, _⟩ w2 ⟨h2, hb2, k2⟩
  dsimp only at h2 hb2 ⊢
  have hl2 := as_len h2
  rw [List.length_append] at hl2
  have k02 := kp0 k01 k2
  have s01 := k01.size
  generalize hL : s.held ++ s.wait = l at h2
  have hLl : l.length = s.held.length + s.wait.length := by rw [← hL, List.length_append]
  refine ⟨fun k st w' => ∃ (i : Nat) (r : Sl), st = (r, (i : Int), ()) ∧ k = l.length - i ∧ i ≤ l.length ∧ SlC w' r 1 (cU ((l.take i).map (·.n))) ∧ (∀ y ∈ blk r, w2.heap.size ≤ y) ∧ Keeps [] w2 w', ⟨_, 0, ⟨none, 0, 0⟩, rfl, rfl, by omega, SlC.nil _ 1, by simp [blk], Keeps.refl _ _⟩, ?_⟩
  rintro k _ w3 ⟨i, r, rfl, rfl, hi, h3, hb3, k3⟩
  dsimp only
  have hl3 := cU_slen h3
  rw [List.length_map, List.length_take] at hl3
  have s02 := k02.size
  by_cases hlt : i < l.length
  · rw [decide_eq_true (by omega)]
    simp only [Br_true]
    obtain ⟨y, hy⟩ : ∃ y, l[i]? = some y := ⟨_, List.getElem?_eq_getElem hlt⟩
    refine as_ld (h2.keeps k3 (by simp)) hy ?_
    refine bx4 fun b w4 hb nb k4 => ?_
    simp only [sxn, hb, sxl, Nat.reduceAdd]
    refine NewApp_of (bytes := 8) (new := [.int .u64 y.n]) (h3.keeps k4 (by simp)) (by simp) (by simp [Value.oneCell']) (by kernel_rfl) (by omega) (by omega) ?_
    intro r5 w5 h5 _ k5 hb5
    have k34 := kp0 k3 k4
    refine ⟨l.length - (i + 1), by omega, i + 1, r5, by rw [w64p (by omega)], rfl, by omega, ?_, fun z hz => ?_, kpx k34 k5 hb3⟩
    · rw [List.take_add_one, hy, cU, List.map_append, List.map_append]
      exact h5
    · rcases hb5 z hz with h' | h'
      · exact hb3 z h'
      · have := k34.size; omega
  · rw [decide_eq_false (by omega)]
    simp only [Br_false]
    rw [List.take_of_length_le (by omega)] at h3
    refine Cl.mono (set_ok h3 (by rw [List.length_map]; omega)) ?_
    rintro ⟨r4, _⟩ w4 ⟨l4, h4, hp4, hm4, hb4, k4⟩
    dsimp only at h4 hb4 ⊢
    refine hR (r4, ()) _ ⟨?_, fun z hz => by have := hb3 z (hb4 z hz); omega, kpx (kp0 k02 k3) k4 (fun z hz => by have := hb3 z hz; omega)⟩
    unfold txnsA
    rw [hL, ← setA_eq hp4 hm4]
    exact h4

theorem TClone_ok {w : World} {t : Nat} {H : Nat → Prop} {s : TS} (h : TAt w t H s) (ho : TOk s) :
    Cl Try.prog i_locks_Table_Clone [.pointer (some ⟨t, 0, none⟩)] false [.sc .p] (fun r w' => ∃ (t' : Nat) (H' : Nat → Prop), r.1 = some ⟨t', 0, none⟩ ∧ TAt w' t' H' s ∧ (∀ x, H' x → w.heap.size ≤ x) ∧ Keeps [] w w') w := by
  obtain ⟨sh, sw, h⟩ := h
  have hfew := ho.few
  refine Cl_gen fun R hR => ?_
  apply locks_Table_Clone_call
  unfold locks_Table_Clone
  simp only [sxn, h.hd, sxl, Nat.reduceAdd]
  have kd : Keeps [] w w.drew := (Keeps.refl _ _).drew
  have g0 := h.keeps0 kd
  refine Cl.mono (Clone_ok g0.h (by omega)) ?_
  rintro ⟨r1, _⟩ w1 ⟨h1, hb1, k1⟩
  dsimp only at h1 hb1 ⊢
  have g1 := g0.keeps0 k1
  simp only [sxn, g1.hd, sxl, Nat.reduceAdd]
  refine ⟨by trivial, ?_⟩
  refine Cl.mono (Clone_ok g1.w (by omega)) ?_
  rintro ⟨r2, _⟩ w2 ⟨h2, hb2, k2⟩
  dsimp only at h2 hb2 ⊢
  refine New_bx fun t' w3 h3 n3 k3 => ?_
  have s0 : w.heap.size = w.drew.heap.size := rfl
  have s1 := k1.size
  have s2 := k2.size
  refine hR _ _ ⟨t', fun x => x = t' ∨ x ∈ blk r1 ∨ x ∈ blk r2, rfl, ⟨r1, r2, h3, (h1.keeps k2 (by simp)).keeps k3 (by simp), h2.keeps k3 (by simp), ?_, ?_, ?_, fun _ => Iff.rfl⟩, ?_, kp0 (kp0 (kp0 kd k1) k2) k3⟩
  · intro hx; have := h1.lt t' hx; omega
  · intro hx; have := h2.lt t' hx; omega
  · intro x hx hx2; have := h1.lt x hx; have := hb2 x hx2; omega
  · rintro x (rfl | hx | hx)
    · omega
    · have := hb1 x hx; omega
    · have := hb2 x hx; omega
end Go.Proofs.Ytmppjgddemlmdaa
