/- The reference's table: its memory, its small functions. Conditions: none. -/
import Derived.Test.YtmppjgddemlmdaaLh
set_option linter.unusedVariables false
set_option linter.unusedSimpArgs false
namespace Go.Proofs.Ytmppjgddemlmdaa
open Go Go.Sx

structure XAtX (w : World) (t : Nat) (H : Nat → Prop) (s : TS) (sh sw : Sl) : Prop where
  hd : w.heap[t]? = some (.cells #[.slice sh.p sh.len sh.cap, .slice sw.p sw.len sw.cap] 54 (0, 0))
  h : As w sh s.held
  w : As w sw s.wait
  th : t ∉ blk sh
  tw : t ∉ blk sw
  hw : ∀ x ∈ blk sh, x ∉ blk sw
  own : ∀ x, H x ↔ x = t ∨ x ∈ blk sh ∨ x ∈ blk sw
def XAt (w : World) (t : Nat) (H : Nat → Prop) (s : TS) : Prop := ∃ sh sw, XAtX w t H s sh sw
theorem XAtX.bl {w : World} {t : Nat} {H : Nat → Prop} {s : TS} {sh sw : Sl} (h : XAtX w t H s sh sw) : Bl H w := by
  intro x hx
  rcases (h.own x).1 hx with rfl | hx | hx
  · exact hp_lt h.hd
  · exact h.h.lt x hx
  · exact h.w.lt x hx
theorem XAt.bl {w : World} {t : Nat} {H : Nat → Prop} {s : TS} (h : XAt w t H s) : Bl H w := by
  obtain ⟨sh, sw, h⟩ := h
  exact h.bl
theorem XAtX.keeps {w w' : World} {t : Nat} {H F : Nat → Prop} {s : TS} {sh sw : Sl} (h : XAtX w t H s sh sw) (hk : KeepsP F w w') (hd : Dj H F) : XAtX w' t H s sh sw :=
  ⟨hk.at h.hd (hd t ((h.own t).2 (.inl rfl))), h.h.keepsP hk (fun x hx => hd x ((h.own x).2 (.inr (.inl hx)))), h.w.keepsP hk (fun x hx => hd x ((h.own x).2 (.inr (.inr hx)))), h.th, h.tw, h.hw, h.own⟩
theorem XAt.keeps {w w' : World} {t : Nat} {H F : Nat → Prop} {s : TS} (h : XAt w t H s) (hk : KeepsP F w w') (hd : Dj H F) : XAt w' t H s := by
  obtain ⟨sh, sw, h⟩ := h
  exact ⟨sh, sw, h.keeps hk hd⟩
theorem XAtX.keeps0 {w w' : World} {t : Nat} {H : Nat → Prop} {s : TS} {sh sw : Sl} (h : XAtX w t H s sh sw) (hk : Keeps [] w w') : XAtX w' t H s sh sw := h.keeps (hk.toP (F := fun _ => False) (by simp)) (fun _ _ h => h)
theorem XAt.keeps0 {w w' : World} {t : Nat} {H : Nat → Prop} {s : TS} (h : XAt w t H s) (hk : Keeps [] w w') : XAt w' t H s := h.keeps (hk.toP (F := fun _ => False) (by simp)) (fun _ _ h => h)

/-- What holds now: another slice of those that hold. -/
theorem XAtX.setH {w w1 w2 : World} {t : Nat} {H : Nat → Prop} {s : TS} {sh sw r : Sl} {l : List Ak} (h : XAtX w t H s sh sw) (k1 : Keeps (blk sh) w w1) (hr : As w1 r l) (hb : ∀ x ∈ blk r, x ∈ blk sh ∨ w.heap.size ≤ x) (k2 : Keeps [t] w1 w2)
    (hd : w2.heap[t]? = some (.cells #[.slice r.p r.len r.cap, .slice sw.p sw.len sw.cap] 54 (0, 0))) :
    ∃ H', XAtX w2 t H' ⟨l, s.wait⟩ r sw ∧ Fr H H' w ∧ KeepsP H w w2 := by
  have htl := hp_lt h.hd
  have tr : t ∉ blk r := fun hx => by rcases hb t hx with h' | h'; exact h.th h'; omega
  have rw' : ∀ x ∈ blk r, x ∉ blk sw := fun x hx hx2 => by rcases hb x hx with h' | h'; exact h.hw x h' hx2; have := h.w.lt x hx2; omega
  refine ⟨fun x => x = t ∨ x ∈ blk r ∨ x ∈ blk sw, ⟨hd, hr.keeps k2 (fun x hx => by simp; rintro rfl; exact tr hx), (h.w.keeps k1 (fun x hx h' => h.hw x h' hx)).keeps k2 (fun x hx => by simp; rintro rfl; exact h.tw hx), tr, h.tw, rw', fun _ => Iff.rfl⟩, ?_, ?_⟩
  · rintro x (rfl | hx | hx)
    · exact .inl ((h.own _).2 (.inl rfl))
    · rcases hb x hx with h' | h'
      · exact .inl ((h.own _).2 (.inr (.inl h')))
      · exact .inr h'
    · exact .inl ((h.own _).2 (.inr (.inr hx)))
  · exact (k1.toP (F := H) (fun x hx => .inl ((h.own _).2 (.inr (.inl hx))))).step k2 (by simp; exact .inl ((h.own _).2 (.inl rfl)))
theorem XAtX.setW {w w1 w2 : World} {t : Nat} {H : Nat → Prop} {s : TS} {sh sw r : Sl} {l : List Ak} (h : XAtX w t H s sh sw) (k1 : Keeps (blk sw) w w1) (hr : As w1 r l) (hb : ∀ x ∈ blk r, x ∈ blk sw ∨ w.heap.size ≤ x) (k2 : Keeps [t] w1 w2)
    (hd : w2.heap[t]? = some (.cells #[.slice sh.p sh.len sh.cap, .slice r.p r.len r.cap] 54 (0, 0))) :
    ∃ H', XAtX w2 t H' ⟨s.held, l⟩ sh r ∧ Fr H H' w ∧ KeepsP H w w2 := by
  have htl := hp_lt h.hd
  have tr : t ∉ blk r := fun hx => by rcases hb t hx with h' | h'; exact h.tw h'; omega
  have rw' : ∀ x ∈ blk sh, x ∉ blk r := fun x hx hx2 => by rcases hb x hx2 with h' | h'; exact h.hw x hx h'; have := h.h.lt x hx; omega
  refine ⟨fun x => x = t ∨ x ∈ blk sh ∨ x ∈ blk r, ⟨hd, (h.h.keeps k1 (fun x hx h' => h.hw x hx h')).keeps k2 (fun x hx => by simp; rintro rfl; exact h.th hx), hr.keeps k2 (fun x hx => by simp; rintro rfl; exact tr hx), h.th, tr, rw', fun _ => Iff.rfl⟩, ?_, ?_⟩
  · rintro x (rfl | hx | hx)
    · exact .inl ((h.own _).2 (.inl rfl))
    · exact .inl ((h.own _).2 (.inr (.inl hx)))
    · rcases hb x hx with h' | h'
      · exact .inl ((h.own _).2 (.inr (.inr h')))
      · exact .inr h'
  · exact (k1.toP (F := H) (fun x hx => .inl ((h.own _).2 (.inr (.inr hx))))).step k2 (by simp; exact .inl ((h.own _).2 (.inl rfl)))


def XSt (w w' : World) (t : Nat) (H : Nat → Prop) (s' : TS) : Prop := ∃ H', XAt w' t H' s' ∧ Fr H H' w ∧ KeepsP H w w'

theorem bx5 {n : Int} {lo hi : ByteArray} {wr : Bool} {K : Addr → Pr} {w : World} (h : ∀ b w1, w1.heap[b]? = some (.cells #[.int .u64 n, .string lo, .string hi, .bool wr] 78 (0, 0)) → w.heap.size ≤ b → Keeps [] w w1 → K ⟨b, 0, none⟩ w1) :
    New #[(.int .u64 0), (.string (BA [])), (.string (BA [])), (.bool false)] 78 (fun a => St (a.add 0) (.int .u64 n) <| St (a.add 1) (.string lo) <| St (a.add 2) (.string hi) <| St (a.add 3) (.bool wr) (K a)) w := by
  refine New_bx fun b w1 h1 n1 k1 => ?_
  simp only [add_of, Nat.reduceAdd]
  refine set_box h1 0 _ rfl (by simp) fun w2 h2 k2 => ?_
  refine set_box h2 1 _ rfl (by simp) fun w3 h3 k3 => ?_
  refine set_box h3 2 _ rfl (by simp) fun w4 h4 k4 => ?_
  refine set_box h4 3 _ rfl (by simp) fun w5 h5 k5 => ?_
  exact h b w5 h5 n1 (kpx (kpx (kpx (kpx k1 k2 (by simpa using n1)) k3 (by simpa using n1)) k4 (by simpa using n1)) k5 (by simpa using n1))

theorem Way_ok (x y : Ak) (w : World) : Cl Try.prog i_sumpterref16_Way [vA x, vA y] false [.sc .b] (fun r w' => r.1 = wayA x y ∧ Keeps [] w w') w := by
  refine Cl_gen fun R hR => ?_
  apply sumpterref16_Way_call
  unfold sumpterref16_Way
  refine New_bx fun a w1 ha na k1 => ?_
  refine New_bx fun b w2 hb nb k2 => ?_
  have ha := k2.at ha (by simp)
  simp only [sxn, ha, hb, sxl, Nat.reduceAdd]
  refine Cl.mono (RMeet_ok _ _ _ _ _) ?_
  rintro ⟨s, r, _⟩ w3 ⟨e3, k3⟩
  dsimp only at e3
  subst e3
  have ha := k3.at ha (by simp)
  have hb := k3.at hb (by simp)
  have la := hp_lt ha
  have lb := hp_lt hb
  have k03 := kp0 (kp0 k1 k2) k3
  refine New_bx fun c w4 hc nc k4 => ?_
  have ha := k4.at ha (by simp)
  have hb := k4.at hb (by simp)
  have nc' : w.heap.size ≤ c := by have := k03.size; omega
  simp only [add_of, Nat.reduceAdd]
  refine set_box hc 0 _ rfl (by simp) fun w5 hc5 k5 => ?_
  refine set_box hc5 1 _ rfl (by simp) fun w6 hc6 k6 => ?_
  have x1 : a ∉ [c] := by simp; omega
  have x2 : b ∉ [c] := by simp; omega
  have ha := k6.at (k5.at ha x1) x1
  have hb := k6.at (k5.at hb x2) x2
  have k06 := kpx (kpx (kp0 k03 k4) k5 (by simpa using nc')) k6 (by simpa using nc')
  simp only [sxn, ha, hb, sxl, Nat.reduceAdd]
  cases c2 : x.n != y.n with
  | false => exact hR _ _ ⟨by unfold wayA; rw [c2]; simp, k06⟩
  | true =>
  simp only [Br_true]
  cases c1 : meetsR x.lo x.hi y.lo y.hi with
  | false => exact hR _ _ ⟨by unfold wayA; rw [c1]; rfl, k06⟩
  | true =>
  simp only [sxn, ha, hb, sxl, Nat.reduceAdd]
  cases c3 : x.wr with
  | true => exact hR _ _ ⟨by unfold wayA; rw [c1, c2, c3]; rfl, k06⟩
  | false =>
  simp only [sxn, ha, hb, sxl, Nat.reduceAdd]
  exact hR _ _ ⟨by unfold wayA; rw [c1, c2, c3]; rfl, k06⟩

theorem waitsR_ok {w : World} {t : Nat} {H : Nat → Prop} {s : TS} (h : XAt w t H s) (ho : TOk s) (n : Int) :
    Cl Try.prog i_sumpterref16_Table_waits [.pointer (some ⟨t, 0, none⟩), .int .u64 n] false [.sc .b] (fun r w' => r.1 = s.wait.any (fun y => y.n == n) ∧ Keeps [] w w') w := by
  obtain ⟨sh, sw, h⟩ := h
  have hfew := ho.few
  have hlw := as_len h.w
  refine Cl_gen fun R hR => ?_
  apply sumpterref16_Table_waits_call
  unfold sumpterref16_Table_waits
  simp only [sxn, h.hd, sxl, Nat.reduceAdd]
  refine ⟨fun k st w' => ∃ (i : Nat) (q : Bool), st = (q, (i : Int), ()) ∧ k = s.wait.length - i ∧ i ≤ s.wait.length ∧ (∀ y ∈ s.wait.take i, (y.n == n) = false) ∧ Keeps [] w w', ⟨_, 0, false, rfl, rfl, by omega, by simp, Keeps.refl _ _⟩, ?_⟩
  rintro k _ w1 ⟨i, q, rfl, rfl, hi, hp, k1⟩
  dsimp only
  by_cases hlt : i < s.wait.length
  · rw [decide_eq_true (by omega)]
    simp only [Br_true]
    obtain ⟨y, hy⟩ : ∃ y, s.wait[i]? = some y := ⟨_, List.getElem?_eq_getElem hlt⟩
    refine as_ld (h.w.keeps k1 (by simp)) hy ?_
    refine bx5 fun b w2 hb nb k2 => ?_
    simp only [sxn, hb, sxl, Nat.reduceAdd]
    cases hc : y.n == n with
    | true => exact hR _ _ ⟨(List.any_eq_true.2 ⟨y, List.mem_of_getElem? hy, hc⟩).symm, kp0 k1 k2⟩
    | false =>
      simp only [Br_false]
      refine ⟨s.wait.length - (i + 1), by omega, i + 1, q, by rw [w64p (by omega)], rfl, by omega, fun z hz => ?_, kp0 k1 k2⟩
      rw [List.take_add_one, hy] at hz
      simp at hz
      rcases hz with hz | rfl
      · exact hp z hz
      · exact hc
  · rw [decide_eq_false (by omega)]
    rw [List.take_of_length_le (by omega)] at hp
    exact hR _ _ ⟨(any_take_none hp).symm, k1⟩

theorem freeR_ok {w : World} {t : Nat} {H : Nat → Prop} {s : TS} (h : XAt w t H s) (ho : TOk s) (x : Ak) :
    Cl Try.prog i_sumpterref16_Table_free [.pointer (some ⟨t, 0, none⟩), vA x] false [.sc .b] (fun r w' => r.1 = freeA s x ∧ Keeps [] w w') w := by
  obtain ⟨sh, sw, h⟩ := h
  have hfew := ho.few
  have hlh := as_len h.h
  refine Cl_gen fun R hR => ?_
  apply sumpterref16_Table_free_call
  unfold sumpterref16_Table_free
  refine New_bx fun a w0 ha na k0 => ?_
  have g0 := h.keeps0 k0
  simp only [sxn, g0.hd, sxl, Nat.reduceAdd]
  refine ⟨fun k st w' => ∃ (i : Nat) (q : Bool), st = (q, (i : Int), ()) ∧ k = s.held.length - i ∧ i ≤ s.held.length ∧ (∀ y ∈ s.held.take i, wayA x y = false) ∧ Keeps [] w0 w', ⟨_, 0, false, rfl, rfl, by omega, by simp, Keeps.refl _ _⟩, ?_⟩
  rintro k _ w1 ⟨i, q, rfl, rfl, hi, hp, k1⟩
  dsimp only
  by_cases hlt : i < s.held.length
  · rw [decide_eq_true (by omega)]
    simp only [Br_true]
    obtain ⟨y, hy⟩ : ∃ y, s.held[i]? = some y := ⟨_, List.getElem?_eq_getElem hlt⟩
    refine as_ld (g0.h.keeps k1 (by simp)) hy ?_
    refine bx5 fun b w2 hb nb k2 => ?_
    have ha2 := k2.at (k1.at ha (by simp)) (by simp)
    simp only [sxn, hb, ha2, sxl, Nat.reduceAdd]
    refine Cl.mono (Way_ok y x _) ?_
    rintro ⟨r, _⟩ w3 ⟨e, k3⟩
    dsimp only at e
    rw [wayA_comm] at e
    subst e
    have k03 := kp0 (kp0 k1 k2) k3
    cases hc : wayA x y with
    | true =>
      refine hR _ _ ⟨?_, kp0 k0 k03⟩
      unfold freeA
      rw [List.any_eq_true.2 ⟨y, List.mem_of_getElem? hy, hc⟩]
      rfl
    | false =>
      simp only [Br_false]
      refine ⟨s.held.length - (i + 1), by omega, i + 1, q, by rw [w64p (by omega)], rfl, by omega, fun z hz => ?_, k03⟩
      rw [List.take_add_one, hy] at hz
      simp at hz
      rcases hz with hz | rfl
      · exact hp z hz
      · exact hc
  · rw [decide_eq_false (by omega)]
    rw [List.take_of_length_le (by omega)] at hp
    refine hR _ _ ⟨?_, kp0 k0 k1⟩
    unfold freeA
    rw [any_take_none hp]
    rfl

theorem without_ok {w : World} {s : Sl} {l : List Ak} (h : As w s l) (n : Int) (hN : l.length ≤ 1000) :
    Cl Try.prog i_sumpterref16_without [.slice s.p s.len s.cap, .int .u64 n] false [.sc .sl] (fun r w' => As w' r.1 (l.filter (fun y => !(y.n == n))) ∧ (∀ y ∈ blk r.1, w.heap.size ≤ y) ∧ Keeps [] w w') w := by
  have hl := as_len h
  refine Cl_gen fun R hR => ?_
  apply sumpterref16_without_call
  unfold sumpterref16_without
  refine ⟨fun k st w' => ∃ (i : Nat) (r : Sl), st = (r, (i : Int), ()) ∧ k = l.length - i ∧ i ≤ l.length ∧ As w' r ((l.take i).filter (fun y => !(y.n == n))) ∧ (∀ y ∈ blk r, w.heap.size ≤ y) ∧ Keeps [] w w', ⟨_, 0, ⟨none, 0, 0⟩, rfl, rfl, by omega, SlC.nil _ 4, by simp [blk], Keeps.refl _ _⟩, ?_⟩
  rintro k _ w1 ⟨i, r, rfl, rfl, hi, h1, hb1, k1⟩
  dsimp only
  have hl1 := as_len h1
  have hfl := List.length_filter_le (fun y : Ak => !(y.n == n)) (l.take i)
  rw [List.length_take] at hfl
  by_cases hlt : i < l.length
  · rw [decide_eq_true (by omega)]
    simp only [Br_true]
    obtain ⟨y, hy⟩ : ∃ y, l[i]? = some y := ⟨_, List.getElem?_eq_getElem hlt⟩
    have hsucc : (l.take (i + 1)).filter (fun y => !(y.n == n)) = (l.take i).filter (fun y => !(y.n == n)) ++ (if y.n == n then [] else [y]) := by
      rw [List.take_add_one, hy, List.filter_append]
      congr 1
      cases hc : y.n == n <;> simp [hc]
    refine Jp_of (fun st w' => ∃ r', st = (r', ()) ∧ As w' r' ((l.take (i + 1)).filter (fun y => !(y.n == n))) ∧ (∀ y ∈ blk r', w.heap.size ≤ y) ∧ Keeps [] w w') (fun J hJ => ?_) ?_
    rotate_left
    · rintro _ w2 ⟨r', rfl, h2, hb2, k2⟩
      exact ⟨l.length - (i + 1), by omega, i + 1, r', by rw [w64p (by omega)], rfl, by omega, h2, hb2, k2⟩
    refine as_ld (h.keeps k1 (by simp)) hy ?_
    refine bx5 fun b w2 hb nb k2 => ?_
    simp only [sxn, hb, sxl, Nat.reduceAdd]
    have k02 := kp0 k1 k2
    have h2 := h1.keeps k2 (by simp)
    cases hc : y.n == n with
    | true =>
      rw [show (y.n != n) = false from by simpa [bne] using hc]
      refine hJ (r, ()) _ ⟨r, rfl, ?_, hb1, k02⟩
      rw [hsucc, hc, if_pos rfl, List.append_nil]
      exact h2
    | false =>
      rw [show (y.n != n) = true from by simpa [bne] using hc]
      simp only [sxn, hb, sxl, Nat.reduceAdd]
      refine NewApp_of (bytes := 48) (new := cA y) h2 (by rw [cA_len]) (cA_one y) (by kernel_rfl) (by omega) (by omega) ?_
      intro r3 w3 h3 _ k3 hb3
      refine hJ (r3, ()) _ ⟨r3, rfl, ?_, fun z hz => ?_, kpx k02 k3 hb1⟩
      · rw [hsucc, hc, if_neg (by simp)]
        show SlC _ _ _ _
        rw [List.flatMap_append]
        simpa using h3
      · rcases hb3 z hz with h' | h'
        · exact hb1 z h'
        · have := k02.size; omega
  · rw [decide_eq_false (by omega)]
    rw [List.take_of_length_le (by omega)] at h1
    exact hR (r, ()) _ ⟨h1, hb1, k1⟩

theorem addA_at {l : List Int} {n : Int} {i : Nat} (h1 : ∀ y ∈ l.take i, y < n) (h2 : ∀ x, l[i]? = some x → ¬ x < n) : addA l n = if l[i]? = some n then l else l.take i ++ n :: l.drop i := by
  induction l generalizing i with
  | nil => simp [addA]
  | cons x t ih =>
    cases i with
    | zero =>
      have := h2 x rfl
      unfold addA
      rw [if_neg this]
      by_cases hx : x = n
      · rw [if_pos hx, if_pos (by simp [hx])]
      · rw [if_neg hx, if_neg (by simp [hx])]
        rfl
    | succ i =>
      have hx := h1 x (by simp)
      unfold addA
      rw [if_pos hx, ih (i := i) (fun y hy => h1 y (by simp [hy])) (fun y hy => h2 y (by simpa using hy))]
      simp only [List.getElem?_cons_succ, List.take_succ_cons, List.drop_succ_cons]
      split <;> rfl
theorem Add_ok {w : World} {s : Sl} {l : List Int} (h : SlC w s 1 (cU l)) (n : Int) (hN : l.length ≤ 60000) :
    Cl Try.prog i_sumpterref16_Add [.slice s.p s.len s.cap, .int .u64 n] false [.sc .sl] (fun r w' => SlC w' r.1 1 (cU (addA l n)) ∧ (∀ y ∈ blk r.1, y ∈ blk s ∨ w.heap.size ≤ y) ∧ Keeps [] w w') w := by
  have hl := cU_slen h
  have hc := h.cap
  refine Cl_gen fun R hR => ?_
  apply sumpterref16_Add_call
  unfold sumpterref16_Add
  refine ⟨fun k st w' => ∃ (i : Nat), st = ((i : Int), ()) ∧ k = l.length - i ∧ i ≤ l.length ∧ (∀ y ∈ l.take i, y < n) ∧ w = w', ⟨_, 0, rfl, rfl, by omega, by simp, rfl⟩, ?_⟩
  rintro k _ _ ⟨i, rfl, rfl, hi, hp, rfl⟩
  dsimp only
  refine Jp_of (fun st w' => st = ((match l[i]? with | some x => decide (x < n) | none => false), ()) ∧ w = w') (fun J hJ => ?_) ?_
  · by_cases hlt : i < l.length
    · rw [decide_eq_true (by omega)]
      simp only [Br_true]
      obtain ⟨y, hy⟩ : ∃ y, l[i]? = some y := ⟨_, List.getElem?_eq_getElem hlt⟩
      refine Ix_cu h hy ?_
      exact hJ _ _ ⟨by rw [hy], rfl⟩
    · rw [decide_eq_false (by omega)]
      exact hJ _ _ ⟨by rw [List.getElem?_eq_none (by omega)], rfl⟩
  rintro _ _ ⟨rfl, rfl⟩
  dsimp only
  cases hc1 : (match l[i]? with | some x => decide (x < n) | none => false) with
  | true =>
    simp only [Br_true]
    cases hy : l[i]? with
    | none => rw [hy] at hc1; cases hc1
    | some y =>
      rw [hy] at hc1
      have hlt := (List.getElem?_eq_some_iff.1 hy).1
      refine ⟨l.length - (i + 1), by omega, i + 1, by rw [w64p (by omega)], rfl, by omega, fun z hz => ?_, by trivial⟩
      rw [List.take_add_one, hy] at hz
      simp at hz
      rcases hz with hz | rfl
      · exact hp z hz
      · simpa using hc1
  | false =>
    simp only [Br_false]
    have h2 : ∀ x, l[i]? = some x → ¬ x < n := fun x hx => by rw [hx] at hc1; simpa using hc1
    have hadd := addA_at hp h2
    refine Jp_of (fun st w' => st = (decide (l[i]? = some n), ()) ∧ w = w') (fun J hJ => ?_) ?_
    · by_cases hlt : i < l.length
      · rw [decide_eq_true (by omega)]
        simp only [Br_true]
        obtain ⟨y, hy⟩ : ∃ y, l[i]? = some y := ⟨_, List.getElem?_eq_getElem hlt⟩
        refine Ix_cu h hy ?_
        refine hJ _ _ ⟨?_, rfl⟩
        rw [hy]
        by_cases hyn : y = n <;> simp [hyn]
      · rw [decide_eq_false (by omega)]
        refine hJ _ _ ⟨?_, rfl⟩
        rw [List.getElem?_eq_none (by omega)]
        simp
    rintro _ _ ⟨rfl, rfl⟩
    dsimp only
    by_cases hin : l[i]? = some n
    · rw [decide_eq_true hin]
      rw [if_pos hin] at hadd
      simp only [Br_true]
      refine hR (s, ()) _ ⟨by rw [hadd]; exact h, fun y hy => .inl hy, Keeps.refl _ _⟩
    · rw [decide_eq_false hin]
      rw [if_neg hin] at hadd
      simp only [Br_false]
      refine ⟨⟨by omega, by omega⟩, ?_⟩
      simp only [slOff_zero, Int.toNat_natCast, Nat.sub_zero]
      have hf := slc_front h (i := i) (by omega)
      rw [Nat.mul_one, cU, ← List.map_take] at hf
      have hnil : SlC w ⟨none, 0, 0⟩ 1 (cU []) := SlC.nil _ 1
      refine App_of hnil hf.rdc (by rw [List.length_map, List.length_take]; omega) (cU_one _) (by kernel_rfl) (by dsimp only; omega) (by dsimp only; omega) ?_
      intro r1 w1 h1 l1 k1 b1
      have k01 : Keeps [] w w1 := k1.mono (by simp [blk])
      have f1 : ∀ y ∈ blk r1, w.heap.size ≤ y := fun y hy => (b1 y hy).elim (fun h => by simp [blk] at h) id
      dsimp only at l1
      refine NewApp_of (bytes := 8) (new := [.int .u64 n]) h1 (by simp) (by simp [Value.oneCell']) (by kernel_rfl) (by omega) (by omega) ?_
      intro r2 w2 h2' l2 k2 b2
      have k02 := kpx k01 k2 f1
      have f2 : ∀ y ∈ blk r2, w.heap.size ≤ y := fun y hy => (b2 y hy).elim (f1 y) (fun h => by have := k01.size; omega)
      refine ⟨⟨by omega, by omega⟩, ?_⟩
      have hs := (h.keeps k02 (by simp)).sub (lo := i) (hi := s.len) (by omega) (Nat.le_refl _)
      rw [Nat.mul_one, Nat.mul_one, cU, ← List.map_drop, List.take_of_length_le (by simp; omega)] at hs
      refine App_of h2' hs.rdc (by rw [List.length_map, List.length_drop]; omega) (cU_one _) (by kernel_rfl) (by omega) (by omega) ?_
      intro r3 w3 h3 l3 k3 b3
      refine hR (r3, ()) _ ⟨?_, fun y hy => .inr ((b3 y hy).elim (f2 y) (fun h => by have := k02.size; omega)), kpx k02 k3 f2⟩
      rw [hadd]
      show SlC w3 r3 1 (cU _)
      have e : cU (l.take i ++ n :: l.drop i) = cU [] ++ List.map (Value.int .u64) (l.take i) ++ [.int .u64 n] ++ List.map (Value.int .u64) (l.drop i) := by simp [cU]
      rw [e]
      exact h3
end Go.Proofs.Ytmppjgddemlmdaa
