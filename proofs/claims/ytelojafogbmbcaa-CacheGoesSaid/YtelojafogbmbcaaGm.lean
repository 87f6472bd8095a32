/- CacheGoes, walked. -/
import Derived.Test.YtelojafogbmbcaaGs
set_option linter.unusedVariables false
set_option linter.unusedSimpArgs false
namespace Go.Proofs.Ytelojafogbmbcaa
open Go Go.Sx

/-- Both caches, with their Backs. -/
structure TW (w0 : World) (b1 b2 c1 c2 N n : Nat) (s : CSt (refB b1)) (w : World) (H1 H2 : Nat → Prop) : Prop where
  c : CW (refB b1) N c1 n s w H1
  r : RW (β := b1) w c2 b2 N n s H2
  dj : Dj H1 H2
  nw : ∀ x, H1 x ∨ H2 x → w0.heap.size ≤ x
  kp : Keeps [] w0 w
  io : InOk s

theorem TW.keeps {w0 : World} {b1 b2 c1 c2 N n : Nat} {s : CSt (refB b1)} {w w' : World} {H1 H2 : Nat → Prop} (h : TW w0 b1 b2 c1 c2 N n s w H1 H2) {m : List Nat} (hk : Keeps m w w') (hm : ∀ x ∈ m, w0.heap.size ≤ x ∧ ¬ H1 x ∧ ¬ H2 x) : TW w0 b1 b2 c1 c2 N n s w' H1 H2 := by
  have hkp : KeepsP (fun x => x ∈ m) w w' := hk.toP (fun x hx => .inl hx)
  exact ⟨h.c.keeps hkp (fun x hx hh => (hm x hh).2.1 hx), h.r.keeps hkp (fun x hx hh => (hm x hh).2.2 hx), h.dj, h.nw, h.kp.trans hk (fun x hx => .inr (hm x hx).1), h.io⟩
theorem TW.grow {w0 : World} {b1 b2 c1 c2 N n : Nat} {s : CSt (refB b1)} {w w' : World} {H1 H2 : Nat → Prop} (h : TW w0 b1 b2 c1 c2 N n s w H1 H2) (hk : Keeps [] w w') : TW w0 b1 b2 c1 c2 N n s w' H1 H2 := h.keeps hk (by simp)
theorem TW.less {w0 : World} {b1 b2 c1 c2 N M n m : Nat} {s : CSt (refB b1)} {w : World} {H1 H2 : Nat → Prop} (h : TW w0 b1 b2 c1 c2 N n s w H1 H2) (hN : N ≤ M) (hn : m ≤ n) : TW w0 b1 b2 c1 c2 M m s w H1 H2 :=
  ⟨(h.c.less hn).mono hN, (h.r.less hn).mono hN, h.dj, h.nw, h.kp, h.io⟩

/-- One has done its act, and then the other. -/
theorem TW.two {w0 : World} {b1 b2 c1 c2 N n M m : Nat} {s s' : CSt (refB b1)} {w w1 w2 : World} {H1 H2 H1' H2' : Nat → Prop} (h : TW w0 b1 b2 c1 c2 N n s w H1 H2) (a : CW (refB b1) M c1 m s' w1 H1') (ka : KeepsP H1 w w1) (fa : Fr H1 H1' w)
    (b : RW (β := b1) w2 c2 b2 M m s' H2') (kb : KeepsP H2 w1 w2) (fb : Fr H2 H2' w1) (io : InOk s') : TW w0 b1 b2 c1 c2 M m s' w2 H1' H2' ∧ KeepsP (fun x => H1 x ∨ H2 x) w w2 ∧ Fr (fun x => H1 x ∨ H2 x) (fun x => H1' x ∨ H2' x) w := by
  have z1 := ka.size
  have bl2 := h.r.bl
  have bla := a.bl
  have zk := h.kp.size
  have dj' : Dj H1' H2 := fun x hx h2 => by
    rcases fa x hx with h' | h'
    · exact h.dj x h' h2
    · have := bl2 x h2; omega
  have kk : KeepsP (fun x => H1 x ∨ H2 x) w w2 := (ka.mono fun y hy => .inl (.inl hy)).trans kb (fun x hx => .inl (.inr hx))
  have ff : Fr (fun x => H1 x ∨ H2 x) (fun x => H1' x ∨ H2' x) w := fun x hx => by
    rcases hx with hx | hx
    · rcases fa x hx with h' | h'
      · exact .inl (.inl h')
      · exact .inr h'
    · rcases fb x hx with h' | h'
      · exact .inl (.inr h')
      · right; omega
  refine ⟨⟨a.keeps kb dj', b, fun x hx h2 => ?_, fun x hx => ?_, ?_, io⟩, kk, ff⟩
  · rcases fb x h2 with h' | h'
    · exact dj' x hx h'
    · have := bla x hx; omega
  · rcases ff x hx with h' | h'
    · exact h.nw x h'
    · omega
  · refine KeepsP.toL (F := fun x => w0.heap.size ≤ x) ?_ (fun x hx => hx)
    exact (h.kp.toP (by simp)).trans kk (fun x hx => .inl (h.nw x hx))

/-- Every byte is made one more. -/
theorem inc_ok {w : World} {r : Sl} {bs : List UInt8} (h : SlC w r 1 (cB bs)) (hl : r.len ≤ 9223372036854775806) {K : Pr} (k : ∀ w' bs', SlC w' r 1 (cB bs') → Keeps (blk r) w w' → K w') {Lp' : Pr} (hlp : Lp' = Lp (σ := Int × Unit) (fun L s =>
  Br (decide ((s.1 : Int) < ((r.len : Nat) : Int))) (
  Ix r s.1 1 fun a =>
  LdI .u8 a fun x =>
  Ix r s.1 1 fun a' =>
  St a' (.int .u8 (IntKind.u8.wrap (x + 1))) <|
  L ((w64 (s.1 + 1)), ())) K) (0, ())) : Lp' w := by
  subst hlp
  refine ⟨fun m st w' => ∃ (i : Nat) (bs' : List UInt8), st = ((i : Int), ()) ∧ m = r.len - i ∧ i ≤ r.len ∧ SlC w' r 1 (cB bs') ∧ Keeps (blk r) w w', ⟨r.len, 0, bs, rfl, by omega, by omega, h, Keeps.refl _ _⟩, ?_⟩
  rintro _ _ w1 ⟨i, bs', rfl, rfl, hi, h1, k1⟩
  dsimp only
  have hbl : bs'.length = r.len := by have := h1.len; rw [cB_length] at this; omega
  by_cases hil : i < r.len
  · rw [decide_eq_true (by omega)]
    simp only [sx]
    obtain ⟨b, o, hp, hb⟩ := h1.base (by omega)
    obtain ⟨x, hx⟩ : ∃ x, bs'[i]? = some x := ⟨_, List.getElem?_eq_getElem (by omega)⟩
    rw [Ix_base hp (by omega) (by omega), Int.toNat_natCast, Nat.mul_one, LdI_c, h1.read hp (by rw [cB_length]; omega), cB, List.getElem?_map, hx]
    simp only [Option.map_some, sx]
    rw [Ix_base hp (by omega) (by omega), Int.toNat_natCast, Nat.mul_one]
    refine h1.write hp (by rw [cB_length]; omega) rfl ?_
    intro w2 h2 k2
    have e : (cB bs').set i (.int .u8 (IntKind.u8.wrap ((x.toNat : Int) + 1))) = cB (bs'.set i (x + 1)) := by
      unfold cB
      rw [List.map_set]
      congr 1
    rw [e] at h2
    exact ⟨r.len - (i + 1), by omega, i + 1, _, by rw [show w64 ((i : Int) + 1) = ((i + 1 : Nat) : Int) from w64_nat (n := i + 1) (by omega)], rfl, by omega, h2, k1.trans k2 (fun x hx => .inl (by rw [hb]; exact hx))⟩
  · rw [decide_eq_false (by omega)]
    exact k _ _ h1 k1

def mLog {b1 : Nat} (s : CSt (refB b1)) (l : Int) : CSt (refB b1) := { s with b := (⟨{ s.b.σ with log := if l > s.b.σ.log then l else s.b.σ.log }, s.b.plen⟩ : BS) }

theorem cw_log {b1 c1 N n : Nat} {s : CSt (refB b1)} {w : World} {H : Nat → Prop} (h : CW (refB b1) N c1 n s w H) (l : Int) : (cellO w.heap[b1]? 1 = some (.int .u64 s.b.σ.log)) ∧
    ∀ {K : Pr}, (∀ w', CW (refB b1) N c1 n (mLog s l) w' H → KeepsP H w w' → K w') → St ⟨b1, 1, none⟩ (.int .u64 (if l > s.b.σ.log then l else s.b.σ.log)) K w := by
  obtain ⟨F, G, h⟩ := h
  obtain ⟨m, sl, hB, hG⟩ := (h.bk : BkAt b1 w G s.b.σ)
  obtain ⟨t, hbox⟩ := hB.box
  obtain ⟨kv, hm1, hm2⟩ := hB.mp
  refine ⟨by rw [hbox]; rfl, fun {K} k => ?_⟩
  refine set_box hbox 1 _ rfl (by simp) ?_
  intro w2 hb2 hk2
  simp only [List.setIfInBounds_toArray, List.set_cons_succ, List.set_cons_zero] at hb2
  have gb : G b1 := (hG b1).2 (.inl rfl)
  refine k w2 ⟨F, G, h.ca.keeps (hk2.toP (F := fun y => y = b1) (by simp)) (fun x hx e => h.dj x hx (e ▸ gb)), ?_, h.dj, h.rs, h.own⟩ (hk2.toP fun y hy => .inl ((h.own y).2 (.inr (by simp at hy; rw [hy]; exact gb))))
  exact ⟨m, sl, ⟨⟨t, hb2⟩, ⟨kv, hm1.keepsP (hk2.toP (F := fun x => x = b1) (by simp)) (fun e => hB.bm e.symm), hm2⟩, hB.row.keeps hk2 (fun x hx => by simp; intro e; subst e; exact hB.bs hx), hB.bm, hB.bs, hB.ms, hB.left1, hB.left2, hB.plen⟩, hG⟩

theorem rw_log {b1 b2 c2 N n : Nat} {s : CSt (refB b1)} {w : World} {H : Nat → Prop} (h : RW (β := b1) w c2 b2 N n s H) (l : Int) : (cellO w.heap[c2]? 2 = some (.pointer (some ⟨b2, 0, none⟩))) ∧ (cellO w.heap[b2]? 1 = some (.int .u64 s.b.σ.log)) ∧
    ∀ {K : Pr}, (∀ w', RW (β := b1) w' c2 b2 N n (mLog s l) H → KeepsP H w w' → K w') → St ⟨b2, 1, none⟩ (.int .u64 (if l > s.b.σ.log then l else s.b.σ.log)) K w := by
  obtain ⟨sl, G, h⟩ := h
  obtain ⟨m, sl', hB, hG⟩ := h.bk
  obtain ⟨t, hbox⟩ := hB.box
  obtain ⟨t', hbox'⟩ := h.rc.box
  obtain ⟨kv, hm1, hm2⟩ := hB.mp
  refine ⟨by rw [hbox']; rfl, by rw [hbox]; rfl, fun {K} k => ?_⟩
  refine set_box hbox 1 _ rfl (by simp) ?_
  intro w2 hb2 hk2
  simp only [List.setIfInBounds_toArray, List.set_cons_succ, List.set_cons_zero] at hb2
  have gb : G b2 := (hG b2).2 (.inl rfl)
  refine k w2 ⟨sl, G, h.rc.keepsP (hk2.toP (F := fun y => y = b2) (by simp)) (fun e => h.gc (e ▸ gb)) (fun x hx e => h.gs x hx (e ▸ gb)), ?_, h.gc, h.gs, h.rs, h.own⟩ (hk2.toP fun y hy => .inl ((h.own y).2 (.inl (by simp at hy; rw [hy]; exact gb))))
  exact ⟨m, sl', ⟨⟨t, hb2⟩, ⟨kv, hm1.keepsP (hk2.toP (F := fun x => x = b2) (by simp)) (fun e => hB.bm e.symm), hm2⟩, hB.row.keeps hk2 (fun x hx => by simp; intro e; subst e; exact hB.bs hx), hB.bm, hB.bs, hB.ms, hB.left1, hB.left2, hB.plen⟩, hG⟩

theorem log_in {b1 : Nat} {s : CSt (refB b1)} (h : InOk s) (l : Int) : InOk (mLog s l) := ⟨h.ids, h.pgs⟩
theorem log_len {b1 : Nat} (s : CSt (refB b1)) (l : Int) : (mLog s l).ps.length = s.ps.length := rfl

theorem CacheGoes_ok {w : World} {places left : Int} {l : Sl} {os : List Op} (hl1 : -9223372036854775808 ≤ left) (hl2 : left ≤ 9223372036854775807) (h : RdC l.p (l.len * 4) (os.flatMap encO) w) (htx : ∀ o ∈ os, o.text.size ≤ 140737488355328 ∧ 0 ≤ o.lsn) :
    Cl Try.prog i_sumpterlaw10_CacheGoes [.int .i64 places, .int .i64 left, .slice l.p l.len l.cap] false [.sc .b] (fun r w' => r.1 = true ∧ Keeps [] w w') w := by
  refine Cl_gen fun R hR => ?_
  apply sumpterlaw10_CacheGoes_call
  unfold sumpterlaw10_CacheGoes
  refine Cl.mono live_ok ?_
  rintro r1 w1 ⟨hr1, hk1⟩
  rw [hr1]
  refine Cl.mono (NewBack_ok 6 left (by decide) hl1 hl2) ?_
  rintro r2 w2 ⟨b1, F1, hr2, hb1, hk2, hF1⟩
  rw [hr2]
  have hk02 : Keeps [] w w2 := hk1.trans hk2 (by simp)
  have hz1 := hk1.size
  have hz2 := hk2.size
  obtain ⟨σ0, hσ0⟩ : ∃ σ0 : BS, σ0 = ⟨newB 6 left, newB_plen _ _⟩ := ⟨_, rfl⟩
  have hσσ : σ0.σ = newB 6 left := by rw [hσ0]
  have hrest : ∀ n, n ≤ 1099511627776 → σ0.σ.rest n := fun n hn => by rw [hσσ]; simp [BSt.rest, newB]; exact hn
  -- both are made
  by_cases hpl : 1 ≤ places ∧ places ≤ 64
  case neg =>
    refine Cl.mono (New_no (.inl hpl) ⟨false, rfl⟩) ?_
    rintro r3 _ ⟨hr3, rfl⟩
    rw [hr3]
    refine Cl.mono (NewBack_ok 6 left (by decide) hl1 hl2) ?_
    rintro r4 w4 ⟨b2, F2, hr4, hb2, hk4, hF2⟩
    rw [hr4]
    refine Cl.mono (rNew_no hpl) ?_
    rintro r5 _ ⟨hr5, rfl⟩
    rw [hr5]
    refine Cl.mono (New_no (.inr rfl) ⟨true, rfl⟩) ?_
    rintro r6 _ ⟨hr6, rfl⟩
    rw [hr6]
    simp only [Jp, sx, show ((1 : Int) != 1) = false from rfl, Option.isNone_none, beq_self_eq_true, Bool.not_true]
    exact hR _ _ ⟨rfl, hk02.trans hk4 (by simp)⟩
  obtain ⟨pl, rfl⟩ : ∃ n : Nat, places = (n : Int) := ⟨places.toNat, by omega⟩
  refine Cl.mono (New_yes (B := refB b1) (n := pl) (by omega) (by omega)) ?_
  rintro r3 w3 ⟨c1, FC, hr3, hc3, hk3, hFC⟩
  rw [hr3]
  refine Cl.mono (NewBack_ok 6 left (by decide) hl1 hl2) ?_
  rintro r4 w4 ⟨b2, F2, hr4, hb2, hk4, hF2⟩
  rw [hr4]
  have hb2' : BkAt b2 w4 F2 σ0.σ := by rw [hσσ]; exact hb2
  refine Cl.mono (rNew_yes (β := b1) (n := pl) (by omega) (by omega) hb2' (hrest 1099511627776 (by decide))) ?_
  rintro r5 w5 ⟨c2, H2, hr5, hR5, hk5, hH2⟩
  rw [hr5]
  refine Cl.mono (New_no (.inr rfl) ⟨true, rfl⟩) ?_
  rintro r6 _ ⟨hr6, rfl⟩
  rw [hr6]
  have hz3 := hk3.size
  have hz4 := hk4.size
  have hblF1 := hb1.bl
  have hblFC := hc3.bl
  have hk25 : Keeps [] w2 w5 := ((hk3.trans hk4 (by simp)).trans hk5 (by simp))
  have hk35 : Keeps [] w3 w5 := hk4.trans hk5 (by simp)
  obtain ⟨s0, hs0⟩ : ∃ s0, newC (B := refB b1) pl σ0 = s0 := ⟨_, rfl⟩
  rw [hs0] at hR5
  have hT5 : TW w b1 b2 c1 c2 0 1099511627776 s0 w5 (fun x => FC x ∨ F1 x) H2 := by
    refine ⟨⟨FC, F1, ?_, ?_, fun x hx hf => ?_, ?_, fun x => Iff.rfl⟩, hR5, fun x hx h2 => ?_, fun x hx => ?_, hk02.trans hk25 (by simp), ?_⟩
    · rw [← hs0]; exact hc3.keeps (G := fun _ => False) (hk35.toP (by simp)) (fun _ _ h => h)
    · rw [← hs0]
      show BkAt b1 w5 F1 σ0.σ
      rw [hσσ]
      exact hb1.keeps (G := fun _ => False) (hk25.toP (by simp)) (fun _ _ h => h)
    · have := hFC x hx; have := hblF1 x hf; omega
    · rw [← hs0]; exact hrest _ (by decide)
    · have hxl : x < w3.heap.size := by
        rcases hx with hx | hx
        · exact hblFC x hx
        · have := hblF1 x hx; omega
      rcases hH2 x h2 with h' | h'
      · have := hF2 x h'; omega
      · omega
    · rcases hx with (hx | hx) | hx
      · have := hFC x hx; omega
      · have := hF1 x hx; omega
      · rcases hH2 x hx with h' | h'
        · have := hF2 x h'; omega
        · omega
    · rw [← hs0]
      refine ⟨fun i p hp => ?_, fun k hk => ?_⟩
      · simp only [newC, List.getElem?_replicate] at hp
        split at hp <;> cases hp
      · have hk' : σ0.σ.pages k ≠ none := hk
        rw [hσσ] at hk'
        simp only [newB, newPg] at hk'
        split at hk'
        · rename_i hh; exact ⟨hh.1, by have := hh.2; omega⟩
        · exact absurd rfl hk'
  have hsl : s0.ps.length ≤ 64 := by rw [← hs0]; simp [newC]; omega
  refine Jp_of (fun st w' => w5 = w' ∧ st = (false, ())) ?_ ?_
  · intro J hJ
    simp only [sx, show ((0 : Int) != 0) = false from rfl, show ((1 : Int) != 1) = false from rfl, Option.isNone_none, Option.isNone_some, beq_self_eq_true, Bool.not_true]
    exact hJ _ _ ⟨rfl, rfl⟩
  rintro _ _ ⟨rfl, rfl⟩
  simp only [sx]
  refine Jp_of (fun st w' => w5 = w' ∧ st = (decide (l.len > 200), ())) ?_ ?_
  · intro J hJ
    simp only [Option.isNone_some, sx]
    refine hJ _ _ ⟨rfl, ?_⟩
    congr 1
    apply decide_eq_decide.2
    omega
  rintro _ _ ⟨rfl, rfl⟩
  by_cases hlen : l.len > 200
  · rw [decide_eq_true hlen]
    exact hR _ _ ⟨rfl, hT5.kp⟩
  rw [decide_eq_false hlen]
  simp only [sx]
  refine ⟨fun m st w' => ∃ (i : Nat) (s : CSt (refB b1)) (H1 H2 : Nat → Prop), st = (false, (i : Int), ()) ∧ i ≤ l.len ∧ m = l.len - i ∧ TW w b1 b2 c1 c2 i (130 * (1000 - i)) s w' H1 H2, ⟨l.len, 0, s0, _, H2, rfl, by omega, rfl, hT5.less (Nat.le_refl _) (by decide)⟩, ?_⟩
  rintro _ _ w6 ⟨i, s, H1, H2, rfl, hi, rfl, hT⟩
  dsimp only
  by_cases hil : i < l.len
  case neg =>
    rw [decide_eq_false (by omega)]
    exact hR _ _ ⟨rfl, hT.kp⟩
  rw [decide_eq_true (by omega)]
  simp only [sx]
  refine op_row h hT.kp hil fun ad o ho hc => ?_
  obtain ⟨hotx, hol⟩ := htx o (List.mem_of_getElem? ho)
  refine ⟨_, hc 0 _ (by omega) rfl, _, hc 1 _ (by omega) rfl, _, hc 2 _ (by omega) rfl, _, hc 3 _ (by omega) rfl, ?_⟩
  simp (disch := ((try simp only [sx]); first | done | omega)) only [sx, sxc, sxl, Nat.zero_add, Nat.reduceAdd, Nat.reduceLT, true_and]
  generalize hq : w6.heap.size = q
  generalize hw7 : setObjW (w6.alloc _) q _ = w7
  have hk67 : Keeps [] w6 w7 := by subst hw7; exact ((Keeps.refl [] w6).alloc _).setObjW (.inr (by omega)) _
  have hq7 : w7.heap[q]? = some (.cells #[.int .i64 o.act, .int .i64 o.n, .string o.text, .int .u64 o.lsn] 33) := by subst hw7; exact hp_setObjW_same (by rw [World.size_alloc]; omega)
  have hqlt := hp_lt hq7
  have hT7 := hT.grow hk67
  have hbl1 := hT.c.bl
  have hbl2 := hT.r.bl
  refine StoB_own ?_
  intro r20 w8 hs8 hk8 hb8 hl8
  have hT8 := hT7.grow hk8
  have hq8 := hk8.at hq7 (by simp)
  have hz8 := hk8.size
  have hz7 := hk67.size
  have hzw := hT.kp.size
  have hlt8 := hs8.lt
  have hbs : o.text.data.toList.length ≤ 140737488355328 := by
    have e : o.text.data.toList.length = o.text.size := by simp
    omega
  -- what is so behind the act, whatever it was
  refine Jp_of (fun st w' => ∃ (s' : CSt (refB b1)) (H1' H2' : Nat → Prop) (bs : List UInt8), st = (true, ()) ∧ TW w b1 b2 c1 c2 (i + 1) (130 * (1000 - (i + 1))) s' w' H1' H2' ∧ SlC w' r20 1 (cB bs) ∧ (∀ x ∈ blk r20, ¬ H1' x ∧ ¬ H2' x)) ?_ ?_
  case refine_2 =>
    rintro _ w9 ⟨s', H1', H2', bs, rfl, hT9, hs9, hd9⟩
    refine inc_ok hs9 (by rw [hl8]; omega) ?_ rfl
    intro w10 bs' hs10 hk10
    have hT10 := hT9.keeps hk10 (fun x hx => ⟨by have := hb8 x hx; omega, (hd9 x hx).1, (hd9 x hx).2⟩)
    have huq := hT10.c.uq
    refine Jp_of (fun st w' => st = (false, ()) ∧ Keeps [] w10 w') ?_ ?_
    · intro J hJ
      simp only [Bool.not_true, sx]
      refine Cl.mono (same_ok hT10.c hT10.r (dirty_len huq.1 hT10.io.ids)) ?_
      rintro r30 w11 ⟨hr30, hk11⟩
      rw [hr30]
      exact hJ _ _ ⟨rfl, hk11⟩
    rintro _ w11 ⟨rfl, hk11⟩
    simp only [sx]
    exact ⟨l.len - (i + 1), by omega, i + 1, s', H1', H2', by rw [show w64 ((i : Int) + 1) = ((i + 1 : Nat) : Int) from w64_nat (n := i + 1) (by omega)], by omega, rfl, hT10.grow hk11⟩
  intro J hJ
  -- the slice and the operation's block are apart
  have hd20 : ∀ x ∈ blk r20, ¬ H1 x ∧ ¬ H2 x := fun x hx => ⟨fun hh => by have := hbl1 x hh; have := hb8 x hx; omega, fun hh => by have := hbl2 x hh; have := hb8 x hx; omega⟩
  have fin : ∀ (s' : CSt (refB b1)) (H1' H2' : Nat → Prop) (w9 : World) (N m : Nat), TW w b1 b2 c1 c2 N m s' w9 H1' H2' → N ≤ i + 1 → 130 * (1000 - (i + 1)) ≤ m → KeepsP (fun x => H1 x ∨ H2 x) w8 w9 → Fr (fun x => H1 x ∨ H2 x) (fun x => H1' x ∨ H2' x) w8 → J (true, ()) w9 := by
    intro s' H1' H2' w9 N m hT9 hN hm hk9 hf9
    refine hJ _ _ ⟨s', H1', H2', _, rfl, hT9.less hN hm, hs8.keepsP hk9 (fun x hx hh => by rcases hh with hh | hh; exact (hd20 x hx).1 hh; exact (hd20 x hx).2 hh), fun x hx => ?_⟩
    have : ¬ (H1' x ∨ H2' x) := fun hh => by
      rcases hf9 x hh with (h' | h') | h'
      · exact (hd20 x hx).1 h'
      · exact (hd20 x hx).2 h'
      · have := hlt8 x hx; omega
    exact ⟨fun hh => this (.inl hh), fun hh => this (.inr hh)⟩
  have hsame : ∀ w9, Keeps [] w8 w9 → J (true, ()) w9 := fun w9 hk9 => fin s H1 H2 w9 i (130 * (1000 - i)) (hT8.grow hk9) (by omega) (by omega) (hk9.toP (by simp)) (fun x hx => .inl hx)
  have hqn : ∀ {w9 : World} {H1' H2' : Nat → Prop}, KeepsP H1 w8 w9 → w9.heap[q]? = some (.cells #[.int .i64 o.act, .int .i64 o.n, .string o.text, .int .u64 o.lsn] 33) := fun hk9 => hk9.at hq8 (fun hh => by have := hbl1 q hh; omega)
  have huq := hT8.c.uq
  simp only [sx, sxl, hq8, Nat.zero_add]
  refine Br_of (fun h0 => ?_) (fun h0 => ?_)
  · -- Pin
    simp only [sx, sxl, hq8, Nat.zero_add]
    have hn3 : 130 * (1000 - (i + 1)) + 3 ≤ 130 * (1000 - i) := by omega
    refine Cl.mono ((hT8.c.less hn3).pin (by omega) o.n) ?_
    rintro r33 w9 ⟨hr33, H1', hC9, hs9, hb9, hk9, hf9⟩
    have hq9 := hqn (H1' := H1') (H2' := H2) hk9
    simp only [sx, sxl, hq9, Nat.zero_add]
    refine Cl.mono (rPin_ok (RW.less (hT8.r.keeps hk9 hT8.dj.symm) hn3) (by omega) o.n) ?_
    rintro r35 w10 ⟨hr35, H2', hR10, hk10, hf10⟩
    obtain ⟨hT10, hkk, hff⟩ := TW.two hT8 hC9 hk9 hf9 hR10 hk10 hf10 (pin_in hT8.io o.n)
    have hs10 : SlC w10 r33.1 1 (cB (mPin (refB b1) s o.n).2.1) := hs9.keepsP hk10 (fun x hx hh => by have := (hb9 x hx).1; have := hbl2 x hh; omega)
    have hlt9 := hs9.lt
    have hd33 : ∀ x ∈ blk r33.1, ¬ H1' x ∧ ¬ H2' x := fun x hx => ⟨(hb9 x hx).2, fun hh => by
      rcases hf10 x hh with h' | h'
      · have := (hb9 x hx).1; have := hbl2 x h'; omega
      · have := hlt9 x hx; omega⟩
    rw [hr33, hr35]
    refine Jp_of (fun st w' => w10 = w' ∧ st = (true, ())) ?_ ?_
    · intro J2 hJ2
      refine BtoS_of hs10.rdb ?_
      rw [show seq (⟨(mPin (refB b1) s o.n).2.1.toArray⟩ : ByteArray) (BA (mPin (refB b1) s o.n).2.1) = true from seq_refl _]
      simp only [sx, beq_self_eq_true]
      exact hJ2 _ _ ⟨rfl, rfl⟩
    rintro _ _ ⟨rfl, rfl⟩
    have hl33 : r33.1.len ≤ 140737488355328 := by
      have := hs10.len
      rw [cB_length] at this
      have hb : (mPin (refB b1) s o.n).2.1.length ≤ 140737488355328 := by
        unfold mPin
        split
        · split
          · rename_i p hp
            exact (huq.2.1 _ p hp).len
          · simp
        · simp only
          split
          · split
            · exact (refB b1).load_len _ _
            · simp
          · simp
      omega
    refine inc_ok hs10 (by omega) ?_ rfl
    intro w11 bs' hs11 hk11
    have hnew : ∀ x ∈ blk r33.1, w.heap.size ≤ x := fun x hx => by have := (hb9 x hx).1; omega
    refine fin _ H1' H2' w11 _ _ (hT10.keeps hk11 (fun x hx => ⟨hnew x hx, (hd33 x hx).1, (hd33 x hx).2⟩)) (Nat.le_refl _) (Nat.le_refl _) (hkk.step hk11 (fun x hx => .inr (hb9 x hx).1)) hff
  refine Br_of (fun h1 => ?_) (fun h1 => ?_)
  · -- Unpin
    have hq8d : w8.drew.heap[q]? = some (.cells #[.int .i64 o.act, .int .i64 o.n, .string o.text, .int .u64 o.lsn] 33) := hq8
    have hT8d := hT8.grow ((Keeps.refl [] w8).drew)
    simp only [sx, sxl, hq8, Nat.zero_add]
    refine Cl.mono (hT8d.c.unpin (by omega) o.n) ?_
    rintro r46 w9 ⟨hr46, H1', hC9, hk9, hf9⟩
    have hk9' : KeepsP H1 w8 w9 := ((KeepsP.refl H1 w8).step ((Keeps.refl [] w8).drew) (by simp)).same hk9
    have hq9 := hqn (H1' := H1') (H2' := H2) hk9'
    simp only [sx, sxl, hq9, Nat.zero_add, true_and]
    refine Cl.mono (rUnpin_ok (hT8d.r.keeps hk9 hT8.dj.symm) (by omega) o.n) ?_
    rintro r48 w10 ⟨hr48, H2', hR10, hk10, hf10⟩
    obtain ⟨hT10, hkk, hff⟩ := TW.two hT8d hC9 hk9 hf9 hR10 hk10 hf10 (unpin_in hT8.io o.n)
    rw [hr46, hr48]
    simp only [beq_self_eq_true]
    exact fin _ H1' H2' w10 _ _ hT10 (by omega) (by omega) (((KeepsP.refl _ w8).step ((Keeps.refl [] w8).drew) (by simp)).same hkk) hff
  refine Br_of (fun h2 => ?_) (fun h2 => ?_)
  · -- Put
    have hT8d := hT8.grow ((Keeps.refl [] w8).drew)
    have hs8d : SlC w8.drew r20 1 (cB o.text.data.toList) := hs8.keeps ((Keeps.refl [] w8).drew) (by simp)
    simp only [sx, sxl, hq8, Nat.zero_add, Nat.reduceAdd]
    refine Cl.mono (hT8d.c.put o.n r20 o.text.data.toList o.lsn hs8d (fun y hy => (hd20 y hy).1) hbs) ?_
    rintro r54 w9 ⟨hr54, H1', hC9, hk9, hf9⟩
    have hk9' : KeepsP H1 w8 w9 := ((KeepsP.refl H1 w8).step ((Keeps.refl [] w8).drew) (by simp)).same hk9
    have hq9 := hqn (H1' := H1') (H2' := H2) hk9'
    simp only [sx, sxl, hq9, Nat.zero_add, Nat.reduceAdd, true_and]
    have hrp := rPut_ok (hT8d.r.keeps hk9 hT8.dj.symm) o.n o.text.data.toList o.lsn hol hbs
    rw [show BA o.text.data.toList = o.text from mk_data _] at hrp
    refine Cl.mono hrp ?_
    rintro r58 w10 ⟨hr58, H2', hR10, hk10, hf10⟩
    obtain ⟨hT10, hkk, hff⟩ := TW.two hT8d hC9 hk9 hf9 hR10 hk10 hf10 (put_in hT8.io o.n _ _)
    rw [hr54, hr58]
    simp only [beq_self_eq_true]
    exact fin _ H1' H2' w10 _ _ hT10 (by omega) (by omega) (((KeepsP.refl _ w8).step ((Keeps.refl [] w8).drew) (by simp)).same hkk) hff
  refine Br_of (fun h3 => ?_) (fun h3 => ?_)
  · -- Flush
    have hpl64 := huq.2.2.2
    have hnf : 130 * (1000 - (i + 1)) + 2 * s.ps.length ≤ 130 * (1000 - i) := by omega
    refine Cl.mono ((hT8.c.less hnf).flush) ?_
    rintro r59 w9 ⟨hr59, H1', hC9, hk9, hf9⟩
    refine Cl.mono (rFlush_ok (RW.less (hT8.r.keeps hk9 hT8.dj.symm) hnf)) ?_
    rintro r60 w10 ⟨hr60, H2', hR10, hk10, hf10⟩
    obtain ⟨hT10, hkk, hff⟩ := TW.two hT8 hC9 hk9 hf9 hR10 hk10 hf10 (flush_in _ _ s hT8.io)
    rw [hr59, hr60]
    simp only [beq_self_eq_true]
    exact fin _ H1' H2' w10 _ _ hT10 (by omega) (Nat.le_refl _) hkk hff
  refine Br_of (fun h4 => ?_) (fun h4 => ?_)
  · -- the log
    have hT8d := hT8.grow ((Keeps.refl [] w8).drew)
    obtain ⟨e1, st1⟩ := cw_log hT8d.c o.lsn
    have e1' : cellO w8.heap[b1]? 1 = some (.int .u64 s.b.σ.log) := e1
    simp only [sxr, sxl, hq8, e1', Nat.zero_add, Nat.reduceAdd]
    refine st1 ?_
    intro w9 hC9 hk9
    have hk9' : KeepsP H1 w8 w9 := ((KeepsP.refl H1 w8).step ((Keeps.refl [] w8).drew) (by simp)).same hk9
    have hq9 := hqn (H1' := H1) (H2' := H2) hk9'
    have hR9 := hT8d.r.keeps hk9 hT8.dj.symm
    have hR9d : RW (β := b1) w9.drew c2 b2 i (130 * (1000 - i)) s H2 := hR9.keeps (F := fun _ => False) ((KeepsP.refl _ w9).step ((Keeps.refl [] w9).drew) (by simp)) (fun _ _ h => h)
    obtain ⟨g1, g2, st2⟩ := rw_log hR9d o.lsn
    have g1' : cellO w9.heap[c2]? 2 = some (.pointer (some ⟨b2, 0, none⟩)) := g1
    have g2' : cellO w9.heap[b2]? 1 = some (.int .u64 s.b.σ.log) := g2
    simp only [sxr, sxl, hq9, g1', g2', Nat.zero_add, Nat.reduceAdd]
    refine st2 ?_
    intro w10 hR10 hk10
    have hC9d : CW (refB b1) i c1 (130 * (1000 - i)) (mLog s o.lsn) w9.drew H1 := hC9.keeps (F := fun _ => False) ((KeepsP.refl _ w9).step ((Keeps.refl [] w9).drew) (by simp)) (fun _ _ h => h)
    obtain ⟨hT10, hkk, hff⟩ := TW.two hT8d hC9d (hk9.step ((Keeps.refl [] w9).drew) (by simp)) (Fr.refl _ _) hR10 hk10 (Fr.refl _ _) (log_in hT8.io o.lsn)
    exact fin _ H1 H2 w10 _ _ hT10 (by omega) (by omega) (((KeepsP.refl _ w8).step ((Keeps.refl [] w8).drew) (by simp)).same hkk) hff
  · exact hsame _ (Keeps.refl _ _)

end Go.Proofs.Ytelojafogbmbcaa
