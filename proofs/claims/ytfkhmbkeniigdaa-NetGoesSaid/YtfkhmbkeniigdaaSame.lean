/- Spoil, and the law's own comparison of the two nets. -/
import Derived.Test.YtfkhmbkeniigdaaRef
set_option linter.unusedVariables false
set_option linter.unusedSimpArgs false
namespace Go.Proofs.Ytfkhmbkeniigdaa
open Go Go.Sx

theorem LtsR.set {w : World} {els : List El} {L : List Lt} (h : LtsR w els L) (k : Nat) {e : El} {l : Lt} (hm : Mt w e l) (hd : ∀ x ∈ blk e.s, x ∉ blkE els) : LtsR w (els.set k e) (L.set k l) := by
  refine ⟨by simp [h.len], fun i e' l' he hl => ?_, ?_⟩
  · by_cases hi : k = i
    · subst hi
      have h1 := (List.getElem?_eq_some_iff.1 he).1
      have h2 := (List.getElem?_eq_some_iff.1 hl).1
      rw [List.length_set] at h1 h2
      rw [List.getElem?_set_self h1] at he
      rw [List.getElem?_set_self h2] at hl
      simp at he hl
      subst he hl
      exact hm
    · rw [List.getElem?_set_ne hi] at he hl
      exact h.mt i e' l' he hl
  · have hap := List.pairwise_iff_getElem.1 h.apart
    rw [List.pairwise_iff_getElem]
    intro i j hi hj hij x hx hx'
    rw [List.length_set] at hi hj
    rw [List.getElem_set] at hx hx'
    by_cases h1 : k = i
    · rw [if_pos h1] at hx
      rw [if_neg (by omega)] at hx'
      exact hd x hx (mem_blkE.2 ⟨_, List.getElem_mem hj, hx'⟩)
    · rw [if_neg h1] at hx
      by_cases h2 : k = j
      · rw [if_pos h2] at hx'
        exact hd x hx' (mem_blkE.2 ⟨_, List.getElem_mem hi, hx⟩)
      · rw [if_neg h2] at hx'
        exact hap i j hi hj hij x hx hx'

theorem blkE_set {els : List El} {k : Nat} {e : El} {x : Nat} (hx : x ∈ blkE (els.set k e)) : x ∈ blkE els ∨ x ∈ blk e.s := by
  obtain ⟨e', he', hx'⟩ := mem_blkE.1 hx
  rcases List.mem_or_eq_of_mem_set he' with h | h
  · exact .inl (mem_blkE.2 ⟨e', h, hx'⟩)
  · subst h; exact .inr hx'

theorem net_Spoil_long {w : World} {p : Nat} {L : List Lt} {fp : List Nat} (h : NetAt w p L fp) {k : Nat} (b : Sl) (hk : k < L.length) (hb : 4103 < b.len) :
    Cl Try.prog 15 [.pointer (some ⟨p, 0, none⟩), .int .i64 (k : Int), .slice b.p b.len b.cap] false [.sc (.i .i64)] (fun r w' => r.1 = 2 ∧ w = w') w := by
  apply net_Net_Spoil_call
  unfold net_Net_Spoil
  refine Cl.mono (net_there_ok h _) ?_
  rintro r w' ⟨hr, rfl⟩
  rw [hr, decide_eq_true (by omega)]
  simp only [sx, Bool.not_true]
  rw [decide_eq_true (by omega)]
  exact ⟨by trivial, by trivial⟩

theorem encE_set {els : List El} {k : Nat} {e : El} (he : els[k]? = some e) (s : Sl) : (els.flatMap encE).set (k * 3 + 2) (.slice s.p s.len s.cap) = (els.set k ⟨e.f, e.t, s⟩).flatMap encE := by
  have hk := (List.getElem?_eq_some_iff.1 he).1
  have hcl : (els.flatMap encE).length = els.length * 3 := flat_length encE_len els
  rw [← flat_set encE_len els k _ hk]
  apply List.ext_getElem?
  intro j
  rw [setL_get (by rw [encE_len, hcl]; omega)]
  have hg : ∀ i, i < 3 → (els.flatMap encE)[k * 3 + i]? = (encE e)[i]? := fun i hi => by rw [flat_get encE_len els k i hi, he]; rfl
  by_cases hj : k * 3 ≤ j ∧ j < k * 3 + 3
  · rw [encE_len, if_pos hj]
    obtain ⟨i, hi, rfl⟩ : ∃ i, i < 3 ∧ j = k * 3 + i := ⟨j - k * 3, by omega, by omega⟩
    rw [Nat.add_sub_cancel_left]
    match i, hi with
    | 0, _ => rw [List.getElem?_set_ne (by omega), hg 0 (by omega)]; rfl
    | 1, _ => rw [List.getElem?_set_ne (by omega), hg 1 (by omega)]; rfl
    | 2, _ => rw [List.getElem?_set_self (by rw [hcl]; omega)]; rfl
  · rw [encE_len, if_neg hj, List.getElem?_set_ne (by omega)]

theorem encE_setf {els : List El} {k : Nat} {e : El} (he : els[k]? = some e) (f : Int) : (els.flatMap encE).set (k * 3) (.int .i64 f) = (els.set k ⟨f, e.t, e.s⟩).flatMap encE := by
  have hk := (List.getElem?_eq_some_iff.1 he).1
  have hcl : (els.flatMap encE).length = els.length * 3 := flat_length encE_len els
  rw [← flat_set encE_len els k _ hk]
  apply List.ext_getElem?
  intro j
  rw [setL_get (by rw [encE_len, hcl]; omega)]
  have hg : ∀ i, i < 3 → (els.flatMap encE)[k * 3 + i]? = (encE e)[i]? := fun i hi => by rw [flat_get encE_len els k i hi, he]; rfl
  by_cases hj : k * 3 ≤ j ∧ j < k * 3 + 3
  · rw [encE_len, if_pos hj]
    obtain ⟨i, hi, rfl⟩ : ∃ i, i < 3 ∧ j = k * 3 + i := ⟨j - k * 3, by omega, by omega⟩
    rw [Nat.add_sub_cancel_left]
    match i, hi with
    | 0, _ => rw [Nat.add_zero, List.getElem?_set_self (by rw [hcl]; omega)]; rfl
    | 1, _ => rw [List.getElem?_set_ne (by omega), hg 1 (by omega)]; rfl
    | 2, _ => rw [List.getElem?_set_ne (by omega), hg 2 (by omega)]; rfl
  · rw [encE_len, if_neg hj, List.getElem?_set_ne (by omega)]

theorem net_Spoil_yes {w : World} {p : Nat} {L : List Lt} {fp : List Nat} (h : NetAt w p L fp) (hL : L.length ≤ 128) {k : Nat} {l : Lt} {b : Sl} {bs : List UInt8} (hb : RdB b bs w) (hl : L[k]? = some l) (hbl : bs.length ≤ 4103) :
    Cl Try.prog 15 [.pointer (some ⟨p, 0, none⟩), .int .i64 (k : Int), .slice b.p b.len b.cap] false [.sc (.i .i64)]
      (fun r w' => r.1 = 0 ∧ (∃ fp', NetAt w' p (L.set k ⟨l.f, l.t, bs⟩) fp' ∧ ∀ x ∈ fp', x ∈ fp ∨ w.heap.size ≤ x) ∧ Keeps fp w w') w := by
  have hk := (List.getElem?_eq_some_iff.1 hl).1
  have hb1 := hb.1
  apply net_Net_Spoil_call
  unfold net_Net_Spoil
  refine Cl.mono (net_there_ok h _) ?_
  rintro r w' ⟨hr, rfl⟩
  rw [hr, decide_eq_true (by omega)]
  simp only [sx, Bool.not_true]
  rw [decide_eq_false (by omega)]
  obtain ⟨s, els, hn, rfl⟩ := h
  have hsl := hn.slen
  have hel := hn.lts.len
  obtain ⟨b0, o, hp, hbs⟩ := hn.arr.base (by omega)
  obtain ⟨e, he⟩ : ∃ e, els[k]? = some e := ⟨_, List.getElem?_eq_getElem (by omega)⟩
  have hm := hn.lts.mt k e l he hl
  simp only [sx, sxl, hn.box, Nat.zero_add]
  have hk0 : Keeps [] w w.drew := (Keeps.refl [] w).drew
  refine Cl.mono (slices_Clone_ok (rdb_keeps hb hk0 (by simp)) (by omega)) ?_
  rintro r4 w1 ⟨c1, c2, c3⟩
  have hk1 : Keeps [] w w1 := hk0.trans c2 (by simp)
  have hbox1 := hk1.at hn.box (by simp)
  have hz1 := hk1.size
  simp only [sx] at c3
  simp only [sx, sxl, hbox1, Nat.zero_add, and_true, true_and]
  rw [Ix_base hp (by omega) (by omega), add_of, Int.toNat_natCast]
  have hcl : (els.flatMap encE).length = els.length * 3 := flat_length encE_len els
  refine (hn.arr.keeps hk1 (by simp)).write' (off := o + k * 3 + 2) hp (k * 3 + 2) (by omega) (by rw [hcl]; omega) rfl fun w2 hs2 hk2 => ?_
  rw [encE_set he] at hs2
  have hblt := hn.arr.lt
  have helt := hn.lts.lt
  have hplt := hp_lt hn.box
  have hk12 : Keeps [b0] w w2 := (hk1.mono (by simp)).trans hk2 (by simp)
  have hb0 : b0 ∈ blk s := by simp [hbs]
  refine ⟨⟨_, ⟨s, els.set k ⟨e.f, e.t, r4.1⟩, ⟨hk12.at hn.box (by simp; rintro rfl; exact hn.p1 hb0), hs2, ?_, hn.p1, ?_, ?_⟩, rfl⟩, ?_⟩, hk12.mono (by simp [hbs])⟩
  · refine LtsR.set (hn.lts.keeps hk12 ?_) k ⟨hm.f, hm.t, c1.keeps hk2 ?_⟩ ?_
    · intro x hx
      simp
      rintro rfl
      exact hn.p3 x hb0 hx
    · intro x hx
      have h1 := c3 x hx
      have h2 := hblt b0 hb0
      simp
      omega
    · intro x hx hx'
      have h1 := c3 x hx
      have h2 := helt x hx'
      omega
  · intro hx
    rcases blkE_set hx with hx | hx
    · exact hn.p2 hx
    · have := c3 p hx; omega
  · intro x hx hx'
    rcases blkE_set hx' with h' | h'
    · exact hn.p3 x hx h'
    · have h1 := c3 x h'
      have h2 := hblt x hx
      omega
  · intro x hx
    simp only [List.mem_cons, List.mem_append] at hx ⊢
    rcases hx with rfl | hx | hx
    · exact .inl (.inl rfl)
    · exact .inl (.inr (.inl hx))
    · rcases blkE_set hx with h' | h'
      · exact .inl (.inr (.inr h'))
      · exact .inr (c3 x h')

/-! ### same -/
/-- The clone, its first k letters spoiled. -/
def mark (els : List El) (k : Nat) : List El := (els.take k).map (fun e => ⟨-7, e.t, e.s⟩) ++ els.drop k
theorem mark_length (els : List El) (k : Nat) : (mark els k).length = els.length := by simp [mark]; omega
theorem mark_get {els : List El} {k : Nat} {e : El} (he : els[k]? = some e) : (mark els k)[k]? = some e := by
  have hk := (List.getElem?_eq_some_iff.1 he).1
  have : ((els.take k).map (fun e => (⟨-7, e.t, e.s⟩ : El))).length = k := by simp; omega
  rw [mark, List.getElem?_append_right (by omega), this, Nat.sub_self, List.getElem?_drop, Nat.add_zero, he]
theorem mark_set {els : List El} {k : Nat} {e : El} (he : els[k]? = some e) : (mark els k).set k ⟨-7, e.t, e.s⟩ = mark els (k + 1) := by
  have hk := (List.getElem?_eq_some_iff.1 he).1
  have hl : ((els.take k).map (fun e => (⟨-7, e.t, e.s⟩ : El))).length = k := by simp; omega
  rw [mark, List.set_append_right _ _ (by omega), hl, Nat.sub_self, List.drop_eq_getElem_cons hk, List.set_cons_zero, mark, List.take_add_one, he]
  simp

def SameI (w : World) (r1 : Sl) (els : List El) (L : List Lt) (m : Nat) (st : Bool × Int × Unit) (w' : World) : Prop :=
  ∃ k : Nat, st = (false, (k : Int), ()) ∧ m = L.length - k ∧ k ≤ L.length ∧ SlC w' r1 3 ((mark els k).flatMap encE) ∧ (∀ i e l, k ≤ i → els[i]? = some e → L[i]? = some l → Mt w' e l) ∧ Keeps [] w w'

def RowI (w0 w : World) (x : Sl) (m : Nat) (st : Int × Unit) (w' : World) : Prop :=
  ∃ (k : Nat) (cs : List Value), st = ((k : Int), ()) ∧ m = x.len - k ∧ k ≤ x.len ∧ SlC w' x 1 cs ∧ (∀ v ∈ cs, ∃ n, v = .int .u8 n) ∧ Keeps (blk x) w w'

theorem cB_u8 (bs : List UInt8) : ∀ v ∈ cB bs, ∃ n, v = .int .u8 n := by
  intro v hv
  simp only [cB, List.mem_map] at hv
  obtain ⟨b, _, rfl⟩ := hv
  exact ⟨_, rfl⟩

theorem same_ok {w : World} {p q : Nat} {L : List Lt} {fp fq : List Nat} (h : NetAt w p L fp) (hr : RefAt w q L fq) (hL : L.length ≤ 128) (hb : ∀ l ∈ L, l.bs.length ≤ 4103) :
    Cl Try.prog 17 [.pointer (some ⟨p, 0, none⟩), .pointer (some ⟨q, 0, none⟩)] false [.sc .b] (fun r w' => r.1 = true ∧ Keeps [] w w') w := by
  apply sumpterlaw07_same_call
  unfold sumpterlaw07_same
  refine Cl.mono (net_All_ok h hL hb) ?_
  rintro r w1 ⟨els, a1, a2, hk1, a4, a5⟩
  have hr1 := hr.keeps hk1 (by simp)
  have h1 := h.keeps hk1 (by simp)
  obtain ⟨s, hn, rfl⟩ := hr
  have hsl := hn.arr.slen encS_len (by omega)
  have hrl : r.1.len = L.length := by rw [a1.slen encE_len (by omega), a2.len]
  have hel := a2.len
  have hbox1 := hk1.at hn.box (by simp)
  simp only [Jp, sx, sxl, hbox1, Nat.zero_add, hrl, hsl, bne_self_eq_false]
  have hk2 : Keeps [] w1 w1.drew := (Keeps.refl [] w1).drew
  refine Cl.mono (net_Len_ok (h1.keeps hk2 (by simp))) ?_
  rintro r41 _ ⟨g41, rfl⟩
  simp only [sx, sxl, hbox1, Nat.zero_add, g41, hsl, bne_self_eq_false, true_and]
  have hk02 : Keeps [] w w1.drew := hk1.trans hk2 (by simp)
  refine ⟨SameI w r.1 els L, ⟨L.length, 0, rfl, by simp, by omega, by simpa [mark] using a1.keeps hk2 (by simp), fun i e l _ he hl => ?_, hk02⟩, ?_⟩
  · have := (a2.keeps hk2 (by simp)).mt i e l he hl
    exact this
  rintro _ _ w3 ⟨k, rfl, rfl, hk, hs3, hm3, hk3⟩
  dsimp only
  have hbox3 := hk3.at hn.box (by simp)
  by_cases hlt : k < L.length
  case neg =>
    rw [decide_eq_false (by omega)]
    exact hk3
  rw [decide_eq_true (by omega)]
  simp only [sx]
  obtain ⟨e, he⟩ : ∃ e, els[k]? = some e := ⟨_, List.getElem?_eq_getElem (by omega)⟩
  obtain ⟨l, hl⟩ : ∃ l, L[k]? = some l := ⟨_, List.getElem?_eq_getElem hlt⟩
  have hm := hm3 k e l (Nat.le_refl _) he hl
  obtain ⟨b, o, hp, hbs⟩ := a1.base (by omega)
  obtain ⟨b2, o2, hp2, hbs2⟩ := hn.arr.base (by omega)
  have hxs := hn.arr.keeps hk3 (by simp)
  have q0 := hxs.item encS_len hp2 hl 0 (by omega)
  have q1 := hxs.item encS_len hp2 hl 1 (by omega)
  have q2 := hxs.item encS_len hp2 hl 2 (by omega)
  have n0 := hs3.item encE_len hp (mark_get he) 0 (by omega)
  have n1 := hs3.item encE_len hp (mark_get he) 1 (by omega)
  have n2 := hs3.item encE_len hp (mark_get he) 2 (by omega)
  simp only [encS, encE, sxl, Nat.add_zero] at q0 q1 q2 n0 n1 n2
  rw [hm.f] at n0
  rw [hm.t] at n1
  simp (disch := ((try simp only [sx]); first | done | omega)) only [sx, sxc, sxl, hbox3, Ix_base hp, Ix_base hp2, q0, q1, q2, n0, n1, n2, Int.toNat_natCast, Nat.add_zero, Nat.zero_add, bne_self_eq_false]
  refine BtoS_of (hm.b.keeps (Keeps.refl [] w3).drew (by simp)).rdb ?_
  simp (disch := ((try simp only [sx]); first | done | omega)) only [sx, sxc, sxl, hbox3, Ix_base hp, Ix_base hp2, q0, q1, q2, n0, n1, n2, Int.toNat_natCast, Nat.add_zero, Nat.zero_add, seq_refl, Bool.not_true]
  have hbe : ∀ x ∈ blk e.s, x ∈ blkE els := fun x hx => mem_blkE.2 ⟨e, List.mem_of_getElem? he, hx⟩
  have hbb : b ∈ blk r.1 := by simp [hbs]
  have hkd : Keeps [] w3 w3.drew := (Keeps.refl [] w3).drew
  have hblt := a1.lt b hbb
  refine ⟨RowI w w3.drew e.s, ⟨e.s.len, 0, cB l.bs, rfl, by simp, by omega, hm.b.keeps hkd (by simp), cB_u8 _, Keeps.refl _ _⟩, ?_⟩
  rintro _ _ w5 ⟨j, cs, rfl, rfl, hj, hsx, hu8, hk5⟩
  dsimp only
  have hk35 : Keeps (blk e.s) w3 w5 := (hkd.mono (by simp)).trans hk5 (fun x hx => .inl hx)
  have hnb : b ∉ blk e.s := fun hh => (a4 b hbb).2 (hbe b hh)
  have hs5 := hs3.keeps hk35 (by rw [hbs]; simpa using hnb)
  have m2 := hs5.item encE_len hp (mark_get he) 2 (by omega)
  simp only [encE, sxl] at m2
  by_cases hjl : j < e.s.len
  · rw [decide_eq_true (by omega)]
    have hcl := hsx.len
    obtain ⟨b6, o6, hp6, hbs6⟩ := hsx.base (by omega)
    obtain ⟨n, hn6⟩ : ∃ n, cs[j]? = some (.int .u8 n) := by
      obtain ⟨n, hn⟩ := hu8 cs[j] (List.getElem_mem _)
      exact ⟨n, by rw [← hn]; exact List.getElem?_eq_getElem (by omega)⟩
    have m6 := hsx.read hp6 (j := j) (by omega)
    rw [hn6] at m6
    simp (disch := ((try simp only [sx]); first | done | omega)) only [sxr, Ix_base hp, Ix_base hp6, m2, m6, Int.toNat_natCast, Nat.mul_one]
    refine hsx.write' (off := o6 + j) hp6 j rfl (by omega) rfl fun w6 hs6 hk6 => ?_
    have hwj : w64 ((j : Int) + 1) = ((j + 1 : Nat) : Int) := by
      have := hm.b.len
      have hbl := hb l (List.mem_of_getElem? hl)
      rw [cB_length, Nat.mul_one] at this
      simp only [w64]; rw [IntWalk.i64_in _ (by omega)]; simp
    refine ⟨e.s.len - (j + 1), by omega, j + 1, _, by rw [hwj], rfl, by omega, hs6, ?_, hk5.trans hk6 (by simp [hbs6])⟩
    intro v hv
    rcases List.mem_or_eq_of_mem_set hv with h' | h'
    · exact hu8 v h'
    · exact ⟨_, h'⟩
  rw [decide_eq_false (by omega)]
  simp (disch := ((try simp only [sx]); first | done | omega)) only [sxr, Ix_base hp, Int.toNat_natCast, Nat.add_zero]
  have hml : ((mark els k).flatMap encE).length = els.length * 3 := by rw [flat_length encE_len, mark_length]
  refine hs5.write' (off := o + k * 3) hp (k * 3) rfl (by rw [hml]; omega) rfl fun w6 hs6 hk6 => ?_
  have hwk : w64 ((k : Int) + 1) = ((k + 1 : Nat) : Int) := by simp only [w64]; rw [IntWalk.i64_in _ (by omega)]; simp
  rw [encE_setf (mark_get he), mark_set he] at hs6
  have hk36 : Keeps (b :: blk e.s) w3 w6 := (hk35.mono (fun x hx => .inl (by simp [hx]))).trans hk6 (by simp)
  refine ⟨L.length - (k + 1), by omega, k + 1, by rw [hwk], rfl, by omega, hs6, fun i e' l' hi he' hl' => ?_, hk3.trans hk36 ?_⟩
  · have hm' := hm3 i e' l' (by omega) he' hl'
    refine ⟨hm'.f, hm'.t, hm'.b.keeps hk36 fun x hx => ?_⟩
    simp only [List.mem_cons, not_or]
    refine ⟨fun hh => (a4 b hbb).2 (hh ▸ mem_blkE.2 ⟨e', List.mem_of_getElem? he', hx⟩), fun hh => ?_⟩
    have hap := List.pairwise_iff_getElem.1 a2.apart
    have g1 := List.getElem?_eq_some_iff.1 he
    have g2 := List.getElem?_eq_some_iff.1 he'
    have := hap k i g1.1 g2.1 (by omega) x
    rw [g1.2, g2.2] at this
    exact this hh hx
  · intro x hx
    simp only [List.mem_cons] at hx
    rcases hx with rfl | hx
    · exact .inr (a4 x hbb).1
    · exact .inr (a5 x (hbe x hx))

end Go.Proofs.Ytfkhmbkeniigdaa
