/- A device's memory and what its calls do: Sync, New, Clone. Conditions: none. -/
import Derived.Test.YthfgdoiaebfcdaaDv
set_option linter.unusedVariables false
set_option linter.unusedSimpArgs false
namespace Go.Proofs.Ythfgdoiaebfcdaa
open Go Go.Sx

/-- A Sync that has so many keys before it. -/
def tL (s : DS) (L : List Int) : DS := { s with safe := s.safe.mapIdx fun i x => if (i : Int) ∈ L then x else (s.wait i).getD x, wait := fun i => if (i : Int) ∈ L then s.wait i else none }

theorem tL_ok {s : DS} (h : DOk s) (L : List Int) : DOk (tL s L) :=
  ⟨fun i hi => by
    simp only [tL] at hi ⊢
    split at hi
    · simpa using h.wt i hi
    · exact absurd rfl hi, by simpa [tL] using h.ln, h.f1, h.f2⟩
theorem tL_all {s : DS} {L : List Int} (h : ∀ i, s.wait i ≠ none → (i : Int) ∈ L) : tL s L = s := by
  have hx : ∀ (i : Nat) (x : Sec), (if (i : Int) ∈ L then x else (s.wait i).getD x) = x := by
    intro i x
    split
    · rfl
    · rename_i hn
      cases hw : s.wait i with
      | none => rfl
      | some y => exact absurd (h i (by rw [hw]; simp)) hn
  have hy : ∀ i : Nat, (if (i : Int) ∈ L then s.wait i else none) = s.wait i := by
    intro i
    split
    · rfl
    · rename_i hn
      cases hw : s.wait i with
      | none => rfl
      | some y => exact absurd (h i (by rw [hw]; simp)) hn
  unfold tL
  simp only [hx, hy]
  have : ∀ l : List Sec, l.mapIdx (fun _ x => x) = l := fun l => by
    apply List.ext_getElem?
    intro k
    simp only [List.getElem?_mapIdx]
    cases l[k]? <;> rfl
  rw [this]
theorem tL_nil (s : DS) : tL s [] = { s with safe := mMerge s, wait := fun _ => none } := by
  unfold tL mMerge
  simp
theorem tL_step {s : DS} {L L' : List Int} {i : Nat} {x : Sec} (hp : L.Perm ((i : Int) :: L')) (hn : (i : Int) ∉ L') (hw : s.wait i = some x) (hi : i < s.safe.length) :
    (tL s L').safe = (tL s L).safe.set i x ∧ (tL s L').wait = (fun k => if k = i then none else (tL s L).wait k) := by
  have hm : ∀ k : Nat, k ≠ i → ((k : Int) ∈ L ↔ (k : Int) ∈ L') := by
    intro k hk
    rw [hp.mem_iff, List.mem_cons]
    constructor
    · rintro (h | h)
      · omega
      · exact h
    · exact .inr
  constructor
  · apply List.ext_getElem?
    intro k
    by_cases hk : k = i
    · subst hk
      rw [List.getElem?_set_self (by simpa [tL] using hi)]
      simp only [tL, List.getElem?_mapIdx]
      rw [List.getElem?_eq_getElem hi]
      simp only [Option.map_some, if_neg hn, hw, Option.getD_some]
    · rw [List.getElem?_set_ne (Ne.symm hk)]
      simp only [tL, List.getElem?_mapIdx]
      cases s.safe[k]? with
      | none => rfl
      | some y => simp only [Option.map_some, hm k hk]
  · funext k
    simp only [tL]
    by_cases hk : k = i
    · subst hk; rw [if_pos rfl, if_neg hn]
    · rw [if_neg hk]; simp only [hm k hk]

theorem getS {s : DS} {i : Nat} (h : i < s.safe.length) : ∃ x, s.safe[i]? = some x := ⟨_, List.getElem?_eq_getElem h⟩

theorem Sync_ok {w : World} {d : Nat} {H : Nat → Prop} {s : DS} (h : DAt w d H s) :
    Cl Try.prog i_disk_Disk_Sync [.pointer (some ⟨d, 0, none⟩)] false [.sc (.i .i64)] (fun r w' => r.1 = (mSync s).2 ∧ DAt w' d H (mSync s).1 ∧ KeepsP H w w') w := by
  refine Cl_gen fun R hR => ?_
  apply disk_Disk_Sync_call
  unfold disk_Disk_Sync
  refine Jp_of (fun st w1 => (st = (true, ()) ∧ DAt w1 d H (mSync s).1 ∧ (mSync s).2 = 60 ∧ KeepsP H w w1) ∨ (st = (false, ()) ∧ s.down = false ∧ (mAct s).2 = true ∧ DAt w1 d H (mAct s).1 ∧ KeepsP H w w1)) ?_ ?_
  · intro J hJ
    obtain ⟨sl, m, kv, hX⟩ := id h
    simp only [sx, hX.hd, sxl]
    cases hdn : s.down with
    | true =>
      simp only [sx]
      refine hJ _ _ (.inl ⟨rfl, ?_, ?_, KeepsP.refl _ _⟩)
      · simp only [mSync, hdn, if_true]; exact h
      · simp only [mSync, hdn, if_true]
    | false =>
      simp only [sx]
      refine Cl.mono (act_ok h) ?_
      rintro ⟨r, _⟩ w1 ⟨hr, hD, hk⟩
      simp only at hr
      subst hr
      cases ha : (mAct s).2 with
      | true => exact hJ _ _ (.inr ⟨rfl, hdn, ha, hD, hk⟩)
      | false =>
        refine hJ _ _ (.inl ⟨rfl, ?_, ?_, hk⟩)
        · simp only [mSync, hdn, ha]; exact hD
        · simp only [mSync, hdn, ha]; rfl
  rintro _ w1 (⟨rfl, hD, hr, hk⟩ | ⟨rfl, hdn, ha, hD, hk⟩)
  · simp only [sx]
    exact hR _ _ ⟨hr.symm, hD, hk⟩
  · have hsy : mSync s = ({ (mAct s).1 with safe := mMerge s, wait := fun _ => none }, 0) := by simp [mSync, hdn, ha]
    rw [hsy] at hR
    generalize hs1 : (mAct s).1 = s1 at hD hR
    have hmg : mMerge s = mMerge s1 := by rw [← hs1]; simp only [mMerge, mAct_safe, mAct_wait]
    rw [hmg] at hR
    obtain ⟨sl, m, kv, hX⟩ := id hD
    simp only [sx, hX.hd, sxl]
    obtain ⟨es, c, hbm, hA⟩ := id hX.mp
    have hkeys : ∀ i, s1.wait i ≠ none → (i : Int) ∈ kv.map Prod.fst := by
      intro i hi
      have hg := hX.wr i
      rw [if_pos (by omega), Int.toNat_natCast] at hg
      refine Classical.byContradiction fun hc => ?_
      rw [← aget_none, hg] at hc
      cases hw : s1.wait i with
      | none => exact hi hw
      | some x => rw [hw] at hc; cases hc
    have hdH : H d := (hX.own d).2 (.inl rfl)
    have hmH : H m := (hX.own m).2 (.inr (.inl rfl))
    have hslH : ∀ x ∈ blk sl, H x := fun x hx => (hX.own x).2 (.inr (.inr hx))
    have hbl := hD.bl
    refine RgM_of hX.mp ?_
    intro w2 hit2 hk2 hsz2
    have hD2 : DAtX w2 d H s1 sl m kv := ⟨hk2.at hX.hd (by simp), hX.row.keeps hk2 (by simp), hX.mp.keepsL hk2 (by simp), hX.wr, hX.dm, hX.ds, hX.ms, hX.own, hX.ok⟩
    refine ⟨fun n _ w' => ∃ L kv', n = L.length ∧ L.Nodup ∧ (∀ k ∈ L, k ∈ kv.map Prod.fst) ∧ DAtX w' d H (tL s1 L) sl m kv' ∧ ItR w' w1.heap.size m (Value.int .i64) kv' L ∧ KeepsP H w1 w' ∧ w1.heap.size < w'.heap.size, ⟨_, kv.map Prod.fst, kv, rfl, hA.nd, fun k hk => hk, by rw [tL_all hkeys]; exact hD2, hit2, hk2.toP (by simp), by omega⟩, ?_⟩
    rintro _ _ w3 ⟨L, kv', rfl, hnd, hsub, hX3, hit3, hk3, hsz3⟩
    refine NxEn_of (keyOk_int .i64) hit3 ?_ ?_
    · intro k v L' w4 hget hperm hit4 hk4 hsz4
      have hnd' : (k :: L').Nodup := hperm.nodup_iff.1 hnd
      rw [List.nodup_cons] at hnd'
      -- the entry's key and value
      have hg := hX3.wr k
      rw [hget] at hg
      have hk0 : 0 ≤ k := by
        by_cases h0 : 0 ≤ k
        · exact h0
        · rw [if_neg h0] at hg; cases hg
      obtain ⟨i, rfl⟩ : ∃ i : Nat, k = i := ⟨k.toNat, by omega⟩
      rw [if_pos hk0, Int.toNat_natCast] at hg
      have hiL : (i : Int) ∈ L := hperm.mem_iff.2 (by simp)
      have hwt : (tL s1 L).wait i = s1.wait i := by simp only [tL]; rw [if_pos hiL]
      rw [hwt] at hg
      obtain ⟨x, hx⟩ : ∃ x, s1.wait i = some x := by
        cases hw : s1.wait i with
        | none => rw [hw] at hg; cases hg
        | some x => exact ⟨x, rfl⟩
      rw [hx] at hg
      simp only [Option.map_some, Option.some.injEq] at hg
      have hi : i < s1.safe.length := hX.ok.wt i (by rw [hx]; simp)
      subst hg
      refine Ty_of (k := .i .i64) (i : Int) rfl ?_
      refine TyN_of ?_
      have hitne : ¬ H w1.heap.size := fun hh => by have := hbl _ hh; omega
      have hX4 : DAtX w4 d H (tL s1 L) sl m kv' := ⟨hk4.at hX3.hd (by simp; rintro rfl; exact hitne hdH), hX3.row.keeps hk4 (fun y hy => by simp; rintro rfl; exact hitne (hslH _ hy)), hX3.mp.keepsL hk4 (by simp; rintro rfl; exact hitne hmH), hX3.wr, hX3.dm, hX3.ds, hX3.ms, hX3.own, hX3.ok⟩
      have hbl4 : Bl H w4 := fun y hy => by have := hbl y hy; omega
      refine NewStN_of (by kernel_rfl) (cS_length _) (cS_one _) ?_
      intro w5 hb5 hk5 hsz5
      have hX5 : DAtX w5 d H (tL s1 L) sl m kv' := ⟨hk5.at hX4.hd (by simp), hX4.row.keeps hk5 (by simp), hX4.mp.keepsL hk5 (by simp), hX4.wr, hX4.dm, hX4.ds, hX4.ms, hX4.own, hX4.ok⟩
      have hit5 := hit4.keepsL hk5 (by simp) (by simp)
      have hk35 : KeepsP H w1 w5 := (hk3.step hk4 (by simp)).step hk5 (by simp)
      have hlS : (tL s1 L).safe.length = s1.safe.length := by simp [tL]
      obtain ⟨hst1, hst2⟩ := tL_step hperm hnd'.1 hx hi
      refine Jp_of (fun _ w6 => DAtX w6 d H { tL s1 L with safe := (tL s1 L').safe } sl m kv' ∧ ItR w6 w1.heap.size m (Value.int .i64) kv' L' ∧ KeepsP H w1 w6 ∧ w1.heap.size < w6.heap.size) ?_ ?_
      · intro J hJ
        have hok' : DOk { tL s1 L with safe := (tL s1 L').safe } := ⟨fun k hk => by rw [show _ = (tL s1 L').safe.length from rfl, hst1, List.length_set]; exact hX3.ok.wt k hk, by rw [show _ = (tL s1 L').safe.length from rfl, hst1, List.length_set]; exact hX3.ok.ln, hX3.ok.f1, hX3.ok.f2⟩
        obtain ⟨y, hy⟩ := getS (s := tL s1 L) (i := i) (by rw [hlS]; exact hi)
        simp only [Dr, Nn, add_of]
        refine LdL_of (i := 0) (x := sl) (w := w5.drew) hX5.hd rfl ?_
        refine SlC.ldn (w := w5.drew) cS_length (hX5.row.keeps ((Keeps.refl [] w5).drew) (by simp)) i hy (by omega) ?_
        refine LdN_row (w := w5.drew) hb5 (cS_length _) ?_
        refine EqA_bytes Try.underlying5 y.2 x.2 ?_
        by_cases hxy : y.1 = x.1
        · rw [decide_eq_true hxy]
          simp only [Bool.not_true, Br]
          have hyx : y = x := Subtype.ext hxy
          subst hyx
          have hss : (tL s1 L').safe = (tL s1 L).safe := by
            rw [hst1]
            apply List.ext_getElem?
            intro k
            by_cases hki : i = k
            · subst hki; rw [List.getElem?_set_self (by rw [hlS]; exact hi), hy]
            · rw [List.getElem?_set_ne hki]
          have hkd : Keeps [] w5 w5.drew := (Keeps.refl _ _).drew
          refine hJ _ _ ⟨⟨hX5.hd, by rw [show _ = (tL s1 L').safe from rfl, hss]; exact hX5.row.keeps hkd (by simp), hX5.mp.keepsL hkd (by simp), hX5.wr, hX5.dm, hX5.ds, hX5.ms, hX5.own, hok'⟩, hit5.keepsL hkd (by simp) (by simp), hk35.step hkd (by simp), by show _ < w5.heap.size; omega⟩
        · rw [decide_eq_false hxy]
          simp only [Bool.not_false, Br, Nn]
          have hkd : Keeps [] w5 w5.drew.drew := (Keeps.refl _ _).drew.drew
          refine LdL_of (i := 0) (x := sl) (w := w5.drew.drew) hX5.hd rfl ?_
          refine LdN_row (w := w5.drew.drew) hb5 (cS_length _) ?_
          refine SlC.stn (w := w5.drew.drew) cS_length (hX5.row.keeps hkd (by simp)) i (by rw [hlS]; exact hi) (by omega) x (cS_one _) ?_
          intro w6 hs6 hk6 hsz6
          have hk56 : Keeps (blk sl) w5 w6 := (hkd.mono (m' := blk sl) (by simp)).trans hk6 (fun y hy => .inl hy)
          refine hJ _ _ ⟨⟨hk56.at hX5.hd hX5.ds, by rw [show _ = (tL s1 L').safe from rfl, hst1]; exact hs6, hX5.mp.keepsL hk56 hX5.ms, hX5.wr, hX5.dm, hX5.ds, hX5.ms, hX5.own, hok'⟩, hit5.keepsL hk56 (fun hh => hitne (hslH _ hh)) hX5.ms, hk35.step hk56 (fun y hy => .inl (hslH y hy)), by rw [hsz6]; show _ < w5.heap.size; omega⟩
      · rintro _ w6 ⟨hX6, hit6, hk6, hsz6⟩
        simp only [Nn, add_of]
        refine LdM_of (i := 1) (x := some m) hX6.hd rfl ?_
        obtain ⟨es6, c6, _, hA6⟩ := id hX6.mp
        refine MDel_it (keyOk_int .i64) hit6 (i : Int) hnd'.1 ?_
        intro w7 hit7 hk7 hsz7
        refine ⟨L'.length, by rw [hperm.length_eq]; simp, L', _, rfl, hnd'.2, fun k hk => hsub k (hperm.mem_iff.2 (List.mem_cons_of_mem _ hk)), ⟨hk7.at hX6.hd (by simp; exact hX6.dm), hX6.row.keeps hk7 (fun y hy => by simp; rintro rfl; exact hX6.ms hy), hit7.mp, ?_, hX6.dm, hX6.ds, hX6.ms, hX6.own, tL_ok hX.ok L'⟩, hit7, hk6.step hk7 (by simp; exact .inl hmH), by omega⟩
        rw [hst2]
        exact hX6.wr.del hA6.nd i
    · intro hL w4 hw4
      subst hL
      have hk34 : Keeps [] w3 w4 := by rcases hw4 with rfl | rfl; exact Keeps.refl _ _; exact (Keeps.refl _ _).drew
      refine hR _ _ ⟨rfl, ?_, hk.same (hk3.step hk34 (by simp))⟩
      rw [← tL_nil]
      exact DAt.keeps0 ⟨sl, m, kv', hX3⟩ hk34

/-- A new device. -/
def dNew (n : Nat) : DS := ⟨List.replicate n zSec, fun _ => none, -1, false⟩
theorem dNew_ok {n : Nat} (h : n ≤ 4096) : DOk (dNew n) := ⟨fun i hi => absurd rfl hi, by simpa [dNew] using h, by simp [dNew], by simp [dNew]⟩

theorem New_ok (w : World) (n : Int) :
    Cl Try.prog i_disk_New [.int .i64 n] true [.sc .p, .sc (.i .i64)] (fun r w' => (if n < 1 ∨ 4096 < n then r = (none, 1, ()) else ∃ d H, r = (some ⟨d, 0, none⟩, 0, ()) ∧ DAt w' d H (dNew n.toNat) ∧ (∀ x, H x → w.heap.size ≤ x)) ∧ Keeps [] w w') w := by
  refine Cl_gen fun R hR => ?_
  apply disk_New_call
  unfold disk_New
  refine Jp_of (fun st w' => st = (decide (n < 1 ∨ 4096 < n), ()) ∧ w = w') ?_ ?_
  · intro J hJ
    by_cases h1 : n < 1
    · rw [decide_eq_true h1]
      simp only [Br]
      exact hJ _ _ ⟨by rw [decide_eq_true (.inl h1)], rfl⟩
    · rw [decide_eq_false h1]
      simp only [Br]
      exact hJ _ _ ⟨by simp [h1], rfl⟩
  rintro _ _ ⟨rfl, rfl⟩
  by_cases hc : n < 1 ∨ 4096 < n
  · rw [decide_eq_true hc]
    simp only [Br]
    exact hR _ _ ⟨by rw [if_pos hc], Keeps.refl _ _⟩
  · rw [decide_eq_false hc]
    simp only [Br]
    obtain ⟨k, rfl⟩ : ∃ k : Nat, n = k := ⟨n.toNat, by omega⟩
    have hk46 : k ≤ 4096 := by omega
    refine Mk_of (Nat.le_refl _) (by omega) (by omega) ?_
    intro w1 hs1 hk1 hz1
    rw [show zc Try.prog 59 = (cS zSec).toArray from by kernel_rfl, madeCells_flat cS_length (by omega)] at hs1
    simp only [New, NewObj]
    have hm := MpR.new (κ := Int) w1 (Value.int .i64)
    generalize hw2 : w1.alloc (.map #[] 0) = w2 at hm
    have hk2 : Keeps [] w1 w2 := by rw [← hw2]; exact (Keeps.refl _ _).alloc _
    have hz2 : w2.heap.size = w1.heap.size + 1 := by rw [← hw2, World.size_alloc]
    generalize hw3 : w2.alloc _ = w3
    have hk3 : Keeps [] w2 w3 := by rw [← hw3]; exact (Keeps.refl _ _).alloc _
    have hb3 : w3.heap[w2.heap.size]? = some (.cells #[.slice (some ⟨w.heap.size, 0, none⟩) k k, .map (some w1.heap.size), .int .i64 (-1), .bool false] 56 (0, 0)) := by rw [← hw3]; exact hp_alloc_new w2 _
    have hbk : ∀ x ∈ blk ⟨some ⟨w.heap.size, 0, none⟩, k, k⟩, x = w.heap.size := blk_sub rfl
    refine hR _ _ ⟨?_, (hk1.trans hk2 (by simp)).trans hk3 (by simp)⟩
    rw [if_neg hc]
    refine ⟨w2.heap.size, fun x => x = w2.heap.size ∨ x = w1.heap.size ∨ x ∈ blk ⟨some ⟨w.heap.size, 0, none⟩, k, k⟩, rfl, ⟨⟨some ⟨w.heap.size, 0, none⟩, k, k⟩, w1.heap.size, [], ⟨hb3, ?_, hm.keepsL hk3 (by simp), fun i => by simp [dNew, aget], by omega, fun hx => by have := hbk _ hx; omega, fun hx => by have := hbk _ hx; omega, fun x => Iff.rfl, dNew_ok (by simpa using hk46)⟩⟩, fun x hx => ?_⟩
    · have := (hs1.keeps hk2 (by simp)).keeps hk3 (by simp)
      simpa [dNew] using this
    · rcases hx with rfl | rfl | hx
      · omega
      · omega
      · rw [hbk x hx]; exact Nat.le_refl _

theorem flat_one (l : List Sec) : ∀ v ∈ l.flatMap cS, v.oneCell' = true := by
  intro v hv
  obtain ⟨x, _, h⟩ := List.mem_flatMap.1 hv
  exact cS_one x v h

/-- Another one of the same. -/
theorem Clone_ok {w : World} {d : Nat} {H : Nat → Prop} {s : DS} (h : DAt w d H s) :
    Cl Try.prog i_disk_Disk_Clone [.pointer (some ⟨d, 0, none⟩)] false [.sc .p] (fun r w' => ∃ d' H', r = (some ⟨d', 0, none⟩, ()) ∧ DAt w' d' H' s ∧ (∀ x, H' x → w.heap.size ≤ x) ∧ Keeps [] w w') w := by
  refine Cl_gen fun R hR => ?_
  obtain ⟨sl, m, kv, hX⟩ := id h
  have hl := hX.row.slen cS_length (by omega)
  have hln := hX.ok.ln
  apply disk_Disk_Clone_call
  unfold disk_Disk_Clone
  simp only [Dr, Nn, add_of]
  refine LdL_of (i := 0) (x := sl) (w := w.drew) hX.hd rfl ?_
  refine LdM_of (i := 1) (x := some m) (w := w.drew) hX.hd rfl ?_
  refine LdI_of (i := 2) (x := s.fuse) (w := w.drew) hX.hd rfl ?_
  refine LdB_of (i := 3) (x := s.down) (w := w.drew) hX.hd rfl ?_
  have hr0 : SlC w.drew sl 64 (s.safe.flatMap cS) := hX.row.keeps ((Keeps.refl [] w).drew) (by simp)
  refine Cl.mono (K := fun (r : TR [.sc .sl]) w' => SlC w' r.1 64 (s.safe.flatMap cS) ∧ Keeps [] w w' ∧ (∀ x ∈ blk r.1, w.heap.size ≤ x)) ?_ ?_
  · refine Cl_gen fun R' hR' => ?_
    apply slices_Clone_34_call
    unfold slices_Clone_34
    refine Clone_w (K := fun r => R' (r, ())) (size := 64) (bytes := 64) (by kernel_rfl) (by omega) hr0.rdc (flat_one _) (by omega) (by omega) ?_
    intro r w' a1 a2 a3 a4
    exact hR' _ _ ⟨a1, ((Keeps.refl [] w).drew).trans a3 (by simp), a4⟩
  rintro ⟨r, _⟩ w1 ⟨hs1, hk1, hb1⟩
  have hd1 := hk1.at hX.hd (by simp)
  simp only [sx, hd1, sxl]
  refine ⟨trivial, trivial, trivial, ?_⟩
  refine Cl.mono (MClone_ok (hX.mp.keepsL hk1 (by simp))) ?_
  rintro ⟨r2, _⟩ w2 ⟨hr2, hm2, hk2, hz2⟩
  simp only at hr2
  subst hr2
  have hd2 := hk2.at hd1 (by simp)
  simp only [sx, hd2, sxl]
  refine ⟨trivial, trivial, ?_⟩
  generalize hw3 : w2.alloc _ = w3
  have hk3 : Keeps [] w2 w3 := by rw [← hw3]; exact (Keeps.refl _ _).alloc _
  have hb3 : w3.heap[w2.heap.size]? = some (.cells #[.slice r.p r.len r.cap, .map (some w1.heap.size), .int .i64 s.fuse, .bool s.down] 56 (0, 0)) := by rw [← hw3]; exact hp_alloc_new w2 _
  have hbr : ∀ x ∈ blk r, x < w1.heap.size := hs1.lt
  have hz1 := hk1.size
  refine hR _ _ ⟨w2.heap.size, fun x => x = w2.heap.size ∨ x = w1.heap.size ∨ x ∈ blk r, rfl, ⟨r, w1.heap.size, kv, hb3, (hs1.keeps hk2 (by simp)).keeps hk3 (by simp), hm2.keepsL hk3 (by simp), hX.wr, by omega, fun hx => by have := hbr _ hx; omega, fun hx => by have := hbr _ hx; omega, fun x => Iff.rfl, hX.ok⟩, fun x hx => ?_, (hk1.trans hk2 (by simp)).trans hk3 (by simp)⟩
  rcases hx with rfl | rfl | hx
  · omega
  · omega
  · exact hb1 x hx

end Go.Proofs.Ythfgdoiaebfcdaa
