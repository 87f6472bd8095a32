/- A device's memory and what its calls do: Crash, Start, Sync. Conditions: none. -/
import Derived.Test.YthfgdoiaebfcdaaDw
set_option linter.unusedVariables false
set_option linter.unusedSimpArgs false
namespace Go.Proofs.Ythfgdoiaebfcdaa
open Go Go.Sx

/-! ### the place of a number among those that are let through -/
theorem filter_at (p : Nat → Bool) : ∀ (n j i : Nat), ((List.range n).filter p)[j]? = some i → p i = true ∧ i < n ∧ ((List.range i).filter p).length = j
  | 0, j, i, h => by simp at h
  | n + 1, j, i, h => by
    rw [List.range_succ, List.filter_append] at h
    by_cases hj : j < ((List.range n).filter p).length
    · rw [List.getElem?_append_left hj] at h
      obtain ⟨h1, h2, h3⟩ := filter_at p n j i h
      exact ⟨h1, by omega, h3⟩
    · rw [List.getElem?_append_right (by omega)] at h
      cases hp : p n with
      | false => simp [hp] at h
      | true =>
        simp only [List.filter_cons, hp, if_true, List.filter_nil] at h
        cases hk : j - ((List.range n).filter p).length with
        | zero =>
          rw [hk] at h
          simp at h
          subst h
          exact ⟨hp, by omega, by omega⟩
        | succ k => rw [hk] at h; simp at h
theorem filter_of (p : Nat → Bool) : ∀ (n i : Nat), i < n → p i = true → ((List.range n).filter p)[((List.range i).filter p).length]? = some i
  | 0, i, h, _ => by omega
  | n + 1, i, h, hp => by
    rw [List.range_succ, List.filter_append]
    by_cases hi : i = n
    · subst hi
      rw [List.getElem?_append_right (Nat.le_refl _), Nat.sub_self]
      simp [hp]
    · have ih := filter_of p n i (by omega) hp
      rw [List.getElem?_append_left (List.getElem?_eq_some_iff.1 ih).1]
      exact ih

theorem mWaits_at {s : DS} {j i : Nat} (h : (mWaits s)[j]? = some i) : waiting s i = true ∧ i < s.safe.length ∧ rank s i = j := filter_at _ _ _ _ h
theorem mWaits_of {s : DS} (h : DOk s) {i : Nat} (hw : waiting s i = true) : (mWaits s)[rank s i]? = some i :=
  filter_of _ _ _ (h.wt i (by simpa [waiting, Option.isSome_iff_ne_none] using hw)) hw
theorem rank_lt {s : DS} (h : DOk s) {i : Nat} (hw : waiting s i = true) : rank s i < (mWaits s).length := (List.getElem?_eq_some_iff.1 (mWaits_of h hw)).1
theorem rank_inj {s : DS} (h : DOk s) {i k : Nat} (hi : waiting s i = true) (hk : waiting s k = true) (he : rank s i = rank s k) : i = k := by
  have h1 := mWaits_of h hi
  rw [he, mWaits_of h hk] at h1
  exact (Option.some.inj h1).symm

/-- A crash that has let so many fall. -/
def sJ (s : DS) (mask : ByteArray) (j : Nat) : DS :=
  { s with safe := s.safe.mapIdx fun i x => if rank s i < j then (if bit mask (rank s i) then (s.wait i).getD x else x) else x, wait := fun i => if rank s i < j then none else s.wait i }
theorem sJ_zero (s : DS) (mask : ByteArray) : sJ s mask 0 = s := by
  unfold sJ
  have h : ∀ l : List Sec, l.mapIdx (fun _ x => x) = l := fun l => by
    apply List.ext_getElem?
    intro k
    simp only [List.getElem?_mapIdx]
    cases l[k]? <;> rfl
  simp [h]
theorem sJ_wait {s : DS} (h : DOk s) (mask : ByteArray) {j i : Nat} (hj : (mWaits s)[j]? = some i) : (fun k => if k = i then none else (sJ s mask j).wait k) = (sJ s mask (j + 1)).wait := by
  obtain ⟨h1, h2, h3⟩ := mWaits_at hj
  funext k
  simp only [sJ]
  by_cases hk : k = i
  · subst hk; rw [if_pos rfl, if_pos (by omega)]
  · rw [if_neg hk]
    by_cases hr : rank s k < j
    · rw [if_pos hr, if_pos (by omega)]
    · rw [if_neg hr]
      by_cases hr2 : rank s k < j + 1
      · rw [if_pos hr2]
        cases hw : waiting s k with
        | false => simpa [waiting] using hw
        | true => exact absurd (rank_inj h hw h1 (by omega)) hk
      · rw [if_neg hr2]
theorem sJ_safe {s : DS} (h : DOk s) (mask : ByteArray) {j i : Nat} (hj : (mWaits s)[j]? = some i) :
    (sJ s mask (j + 1)).safe = if bit mask j then (sJ s mask j).safe.set i ((s.wait i).getD zSec) else (sJ s mask j).safe := by
  obtain ⟨h1, h2, h3⟩ := mWaits_at hj
  apply List.ext_getElem?
  intro k
  have key : ∀ x, k ≠ i → (if rank s k < j + 1 then (if bit mask (rank s k) then (s.wait k).getD x else x) else x) = (if rank s k < j then (if bit mask (rank s k) then (s.wait k).getD x else x) else x) := by
    intro x hk
    by_cases hr : rank s k < j
    · rw [if_pos hr, if_pos (by omega)]
    · rw [if_neg hr]
      by_cases hr2 : rank s k < j + 1
      · rw [if_pos hr2]
        cases hw : waiting s k with
        | false =>
          have : s.wait k = none := by simpa [waiting] using hw
          rw [this]
          simp
        | true => exact absurd (rank_inj h hw h1 (by omega)) hk
      · rw [if_neg hr2]
  by_cases hb : bit mask j = true
  · rw [if_pos hb]
    by_cases hk : k = i
    · subst hk
      rw [List.getElem?_set_self (by simpa [sJ] using h2)]
      simp only [sJ, List.getElem?_mapIdx]
      rw [List.getElem?_eq_getElem h2]
      simp only [Option.map_some]
      rw [if_pos (by omega), h3, if_pos hb]
      cases hw : s.wait k with
      | none => simp [waiting, hw] at h1
      | some x => rfl
    · rw [List.getElem?_set_ne (Ne.symm hk)]
      simp only [sJ, List.getElem?_mapIdx]
      cases s.safe[k]? with
      | none => rfl
      | some x => simp only [Option.map_some, key x hk]
  · rw [if_neg hb]
    simp only [sJ, List.getElem?_mapIdx]
    cases s.safe[k]? with
    | none => rfl
    | some x =>
      simp only [Option.map_some]
      by_cases hk : k = i
      · subst hk
        rw [if_pos (by omega), h3, if_neg hb, if_neg (by omega)]
      · rw [key x hk]
theorem sJ_end {s : DS} (h : DOk s) (mask : ByteArray) : { sJ s mask (mWaits s).length with fuse := -1, down := true } = mCrash s mask := by
  unfold sJ mCrash
  have h1 : ∀ k, waiting s k = false → s.wait k = none := fun k hw => by simpa [waiting] using hw
  simp only [DS.mk.injEq, and_true]
  refine ⟨?_, ?_⟩
  · apply List.ext_getElem?
    intro k
    simp only [List.getElem?_mapIdx]
    cases s.safe[k]? with
    | none => rfl
    | some x =>
      simp only [Option.map_some]
      cases hw : waiting s k with
      | true => rw [if_pos (rank_lt h hw)]
      | false => rw [h1 k hw]; simp
  · funext k
    cases hw : waiting s k with
    | true => rw [if_pos (rank_lt h hw)]
    | false => rw [h1 k hw]; simp

theorem WR.del {kv : List (Int × Value)} {wait : Nat → Option Sec} (h : WR kv wait) (hn : (kv.map Prod.fst).Nodup) (i : Nat) : WR (adel (i : Int) kv) (fun k => if k = i then none else wait k) := by
  intro j
  rw [aget_adel _ _ _ hn, h j]
  by_cases hj : j = i
  · subst hj
    simp
  · rw [if_neg hj]
    by_cases h0 : 0 ≤ j
    · have : j.toNat ≠ i := by omega
      simp only [if_pos h0, if_neg this]
    · rw [if_neg h0, if_neg h0]

theorem iand_u8_1 (b : UInt8) : iand .u8 (b.toNat : Int) 1 = ((b.toNat % 2 : Nat) : Int) := by
  have : ∀ n : Fin 256, iand .u8 ((n.val : Nat) : Int) 1 = ((n.val % 2 : Nat) : Int) := by decide +kernel
  exact this ⟨b.toNat, b.toNat_lt⟩
theorem ba_get (s : ByteArray) (k : Nat) : s[k]? = s.data.toList[k]? := by
  simp only [getElem?_def]
  by_cases h : k < s.size
  · rw [dif_pos h, dif_pos (by simpa using h)]
    rfl
  · rw [dif_neg h, dif_neg (by simpa using h)]

theorem Crash_ok {w : World} {d : Nat} {H : Nat → Prop} {s : DS} (h : DAt w d H s) (mask : ByteArray) :
    Cl Try.prog i_disk_Disk_Crash [.pointer (some ⟨d, 0, none⟩), .string mask] true [] (fun _ w' => DAt w' d H (mCrash s mask) ∧ KeepsP H w w') w := by
  refine Cl_gen fun R hR => ?_
  have hok := h.ok
  apply disk_Disk_Crash_call
  unfold disk_Disk_Crash
  refine Cl.mono (Waits_ok h) ?_
  rintro ⟨r, _⟩ w1 ⟨hs1, hk1, hb1⟩
  simp only at hs1 hb1
  have hlen := cI_slen hs1
  have hll : (wI s).length = (mWaits s).length := by simp [wI]
  have hl46 : (mWaits s).length ≤ 4096 := by
    have : (mWaits s).length ≤ s.safe.length := by
      unfold mWaits
      exact Nat.le_trans (List.length_filter_le _ _) (by simp)
    have := hok.ln
    omega
  have hH : ∀ x ∈ blk r, ¬ H x := fun x hx hh => by have := hb1 x hx; have := h.bl x hh; omega
  have hD1 := h.keeps0 hk1
  refine ⟨fun n st w' => ∃ j : Nat, st = ((j : Int), ()) ∧ n = (mWaits s).length - j ∧ j ≤ (mWaits s).length ∧ SlC w' r 1 (cI (wI s)) ∧ DAt w' d H (sJ s mask j) ∧ KeepsP H w w', ⟨_, 0, rfl, rfl, by omega, hs1, by rw [sJ_zero]; exact hD1, hk1.toP (by simp)⟩, ?_⟩
  rintro _ _ w2 ⟨j, rfl, rfl, hj, hs2, hD2, hk2⟩
  dsimp only
  by_cases hjl : j < (mWaits s).length
  · rw [decide_eq_true (by omega)]
    simp only [Br]
    obtain ⟨i, hi⟩ : ∃ i, (mWaits s)[j]? = some i := ⟨_, List.getElem?_eq_getElem hjl⟩
    obtain ⟨hwt, hin, hrk⟩ := mWaits_at hi
    refine Ix_ci (x := (i : Int)) hs2 (by simp [wI, hi]) ?_
    refine Jp_of (fun _ w3 => SlC w3 r 1 (cI (wI s)) ∧ KeepsP H w w3 ∧ DAt w3 d H { sJ s mask j with safe := (sJ s mask (j + 1)).safe }) ?_ ?_
    · intro J6 hJ6
      have hsafe := sJ_safe hok mask hi
      refine Jp_of (fun st w3 => st = (bit mask j, ()) ∧ w2 = w3) ?_ ?_
      · intro J hJ
        by_cases hm : j < mask.size
        · rw [decide_eq_true (by omega)]
          simp only [Br]
          obtain ⟨b, hb⟩ : ∃ b, mask.data.toList[j]? = some b := ⟨_, List.getElem?_eq_getElem (by simpa using hm)⟩
          refine ⟨by omega, b, by rw [Int.toNat_natCast, ba_get]; exact hb, hJ _ _ ⟨?_, rfl⟩⟩
          rw [iand_u8_1]
          unfold bit
          rw [hb]
          have : b.toNat % 2 < 2 := Nat.mod_lt _ (by omega)
          congr 1
          rw [Bool.eq_iff_iff]
          simp
          omega
        · rw [decide_eq_false (by omega)]
          simp only [Br]
          refine hJ _ _ ⟨?_, rfl⟩
          unfold bit
          rw [List.getElem?_eq_none (by have : mask.data.size = mask.size := rfl
                                        simp; omega)]
      · rintro _ _ ⟨rfl, rfl⟩
        cases hb : bit mask j with
        | false =>
          rw [if_neg (by simp [hb])] at hsafe
          simp only [Br]
          refine hJ6 _ _ ⟨hs2, hk2, ?_⟩
          rw [hsafe]
          exact hD2
        | true =>
          rw [if_pos hb] at hsafe
          simp only [Br]
          obtain ⟨sl, m, kv, hX⟩ := hD2
          have hX' : DAtX w2.drew d H (sJ s mask j) sl m kv := ⟨hX.hd, hX.row.keeps ((Keeps.refl [] w2).drew) (by simp), hX.mp, hX.wr, hX.dm, hX.ds, hX.ms, hX.own, hX.ok⟩
          simp only [Dr, Nn, add_of]
          refine LdL_of (i := 0) (x := sl) hX'.hd rfl ?_
          refine LdM_of (i := 1) (x := some m) hX'.hd rfl ?_
          refine lk_ok hX' i (by kernel_rfl) ?_
          have hw1 : (sJ s mask j).wait i = s.wait i := by simp only [sJ]; rw [if_neg (by omega)]
          rw [hw1]
          have hlS : (sJ s mask j).safe.length = s.safe.length := by simp [sJ]
          refine hX'.row.stn cS_length i (by rw [hlS]; exact hin) (by omega) ((s.wait i).getD zSec) (cS_one _) ?_
          intro w3 hs3 hk3 _
          have hk3' : Keeps (blk sl) w2 w3 := ((Keeps.refl (blk sl) w2).drew).trans hk3 (fun x hx => .inl hx)
          have hslH : ∀ x ∈ blk sl, H x := fun x hx => (hX.own x).2 (.inr (.inr hx))
          refine hJ6 _ _ ⟨hs2.keeps hk3' (fun x hx hh => hH x hx (hslH x hh)), hk2.step hk3' (fun x hx => .inl (hslH x hx)), sl, m, kv, hk3'.at hX.hd hX.ds, ?_, hX.mp.keepsL hk3' hX.ms, hX.wr, hX.dm, hX.ds, hX.ms, hX.own, ?_⟩
          · rw [hsafe]; exact hs3
          · exact ⟨fun k hk => by rw [show _ = (sJ s mask (j + 1)).safe.length from rfl]; have := hX.ok.wt k hk; rw [hlS] at this; simpa [sJ] using this, by have := hX.ok.ln; rw [hlS] at this; simpa [sJ] using this, hX.ok.f1, hX.ok.f2⟩
    · rintro _ w3 ⟨hs3, hk3, hD3⟩
      obtain ⟨sl, m, kv, hX⟩ := hD3
      simp only [sx, hX.hd, sxl]
      obtain ⟨es, c, hbm, ha⟩ := id hX.mp
      refine MDel_of (keyOk_int .i64) hX.mp (i : Int) ?_
      intro w4 hm4 hk4
      have hmH : H m := (hX.own m).2 (.inr (.inl rfl))
      refine ⟨(mWaits s).length - (j + 1), by omega, j + 1, by rw [w64_in (by omega) (by omega)]; rfl, rfl, by omega, hs3.keeps hk4 (fun x hx => by simp; rintro rfl; exact hH x hx hmH), ⟨sl, m, _, hk4.at hX.hd (by simp; exact hX.dm), ?_, hm4, ?_, hX.dm, hX.ds, hX.ms, hX.own, ?_⟩, hk3.step hk4 (by simp; exact .inl hmH)⟩
      · exact hX.row.keeps hk4 (fun x hx => by simp; rintro rfl; exact hX.ms hx)
      · rw [← sJ_wait hok mask hi]
        exact hX.wr.del ha.nd i
      · refine ⟨fun k hk => ?_, hX.ok.ln, hX.ok.f1, hX.ok.f2⟩
        rw [← sJ_wait hok mask hi] at hk
        refine hX.ok.wt k fun e => hk ?_
        have e' : (sJ s mask j).wait k = none := e
        simp only [e']
        split <;> rfl
  · rw [decide_eq_false (by omega)]
    simp only [Br]
    obtain rfl : j = (mWaits s).length := by omega
    obtain ⟨sl, m, kv, hX⟩ := hD2
    simp only [Nn]
    rw [add_of]
    refine set_box hX.hd 3 _ rfl (by simp) ?_
    intro w3 hb3 hk3
    rw [add_of]
    refine set_box hb3 2 _ rfl (by simp) ?_
    intro w4 hb4 hk4
    have hk34 : Keeps [d] w2 w4 := hk3.trans hk4 (by simp)
    have hdH : H d := (hX.own d).2 (.inl rfl)
    refine hR _ _ ⟨?_, hk2.step hk34 (by simp; exact .inl hdH)⟩
    rw [← sJ_end hok mask]
    exact ⟨sl, m, kv, hX.set hk34 (by simpa using hb4) rfl rfl (by rw [sJ_end hok mask]; exact hok.crash mask)⟩

theorem Start_ok {w : World} {d : Nat} {H : Nat → Prop} {s : DS} (h : DAt w d H s) :
    Cl Try.prog i_disk_Disk_Start [.pointer (some ⟨d, 0, none⟩)] true [] (fun _ w' => DAt w' d H (mStart s) ∧ KeepsP H w w') w := by
  refine Cl_gen fun R hR => ?_
  have hok := h.ok.start
  apply disk_Disk_Start_call
  unfold disk_Disk_Start
  obtain ⟨sl, m, kv, hX⟩ := id h
  simp only [sxr, hX.hd, sxl]
  unfold mStart at hR hok
  cases hd : s.down with
  | false =>
    simp only [hd, Bool.false_eq_true, if_false] at hR
    simp only [sxr]
    exact hR _ _ ⟨h, KeepsP.refl _ _⟩
  | true =>
    simp only [hd, if_true] at hR hok
    simp only [sxr]
    refine Cl.mono (Crash_ok h (BA [])) ?_
    rintro _ w1 ⟨⟨sl1, m1, kv1, hX1⟩, hk1⟩
    refine set_box hX1.hd 3 _ rfl (by simp) ?_
    intro w2 hb2 hk2
    exact hR _ _ ⟨⟨sl1, m1, kv1, hX1.set hk2 (by simpa using hb2) rfl rfl hok⟩, hk1.step hk2 (by simp; exact .inl ((hX1.own d).2 (.inl rfl)))⟩

end Go.Proofs.Ythfgdoiaebfcdaa
