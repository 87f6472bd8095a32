/- The law AllocGoes: what the code does. -/
import Derived.Test.YtdpbgcplcjhjmaaSame
set_option linter.unusedVariables false
set_option linter.unusedSimpArgs false
namespace Go.Proofs.Ytdpbgcplcjhjmaa
open Go Go.Sx

theorem Load_none {w : World} {i : Int} (hi : ¬ (1 ≤ i ∧ i ≤ 1024)) (b : Sl) :
    Cl Try.prog 15 [.int .i64 i, .slice b.p b.len b.cap] true [.sc .p, .sc (.i .i64)] (fun r w' => r = (none, 1, ()) ∧ w = w') w := by
  apply alloc_Load_call
  unfold alloc_Load
  refine Cl.mono (New_no hi) ?_
  rintro r _ ⟨rfl, rfl⟩
  exact ⟨rfl, rfl⟩
theorem rLoad_none {w : World} {i : Int} (hi : ¬ (1 ≤ i ∧ i ≤ 1024)) (b : Sl) :
    Cl Try.prog 20 [.int .i64 i, .slice b.p b.len b.cap] true [.sc .p, .sc (.i .i64)] (fun r w' => r = (none, 1, ()) ∧ w = w') w := by
  apply sumpterref08_Load_call
  unfold sumpterref08_Load
  refine Cl.mono (rNew_no hi) ?_
  rintro r _ ⟨rfl, rfl⟩
  exact ⟨rfl, rfl⟩

structure Two (w0 w : World) (p q n : Nat) (T : Nat → Bool) (fq : List Nat) : Prop where
  al : AlAt w p n T
  rf : RfAt w q n T fq
  dis : p ∉ fq
  np : w0.heap.size ≤ p
  nq : ∀ x ∈ fq, w0.heap.size ≤ x
  keep : Keeps [] w0 w

theorem Two.keeps {w0 w w' : World} {p q n : Nat} {T : Nat → Bool} {fq m : List Nat} (h : Two w0 w p q n T fq) (hk : Keeps m w w') (hm : ∀ x ∈ m, x ≠ p ∧ x ∉ fq ∧ w0.heap.size ≤ x) : Two w0 w' p q n T fq :=
  ⟨h.al.keeps hk fun hp => (hm p hp).1 rfl, h.rf.keeps hk fun x hx hx' => (hm x hx').2.1 hx, h.dis, h.np, h.nq, h.keep.trans hk fun x hx => .inr (hm x hx).2.2⟩

/-- The alloc first, then the reference. -/
theorem Two.step {w0 w w1 w2 : World} {p q n : Nat} {T T' : Nat → Bool} {fq : List Nat} (h : Two w0 w p q n T fq) (a : AlAt w1 p n T') (k1 : Keeps [p] w w1) (r : RfAt w2 q n T' fq) (k2 : Keeps fq w1 w2) : Two w0 w2 p q n T' fq :=
  ⟨a.keeps k2 h.dis, r, h.dis, h.np, h.nq, (h.keep.trans k1 (by simp; exact h.np)).trans k2 fun x hx => .inr (h.nq x hx)⟩

theorem both_run {w0 w w1 : World} {p q n : Nat} {T : Nat → Bool} {fq : List Nat} (hT : Two w0 w p q n T fq) {k : Nat} (hk : 1 ≤ k) (hk2 : k < 2 ^ 63) {r : TR [.sc (.i .i64), .sc (.i .i64)]}
    (hr : (r = (0, 62, ()) ∧ (∀ a, a + k ≤ n → ¬ freeAt T k a) ∧ w = w1) ∨ ∃ a : Nat, r = ((a : Int), 0, ()) ∧ a + k ≤ n ∧ freeAt T k a ∧ (∀ b, b < a → ¬ freeAt T k b) ∧ AlAt w1 p n (runT T a k) ∧ Keeps [p] w w1) :
    Keeps [p] w w1 ∧ Cl Try.prog 21 [.pointer (some ⟨q, 0, none⟩), .int .i64 (k : Int)] true [.sc (.i .i64), .sc (.i .i64)] (fun r' w' => r = r' ∧ (∃ T', Two w0 w' p q n T' fq) ∧ Keeps fq w1 w') w1 := by
  rcases hr with ⟨rfl, hn, rfl⟩ | ⟨a, rfl, hab, hfa, hla, hA, hk1⟩
  · refine ⟨Keeps.refl _ _, Cl.mono (rTakeRun_ok hT.rf hk hk2) ?_⟩
    rintro r' w' (⟨rfl, _, rfl⟩ | ⟨a, _, hab, hfa, _⟩)
    · exact ⟨rfl, ⟨T, hT⟩, Keeps.refl _ _⟩
    · exact absurd hfa (hn a hab)
  · have hR := hT.rf.keeps hk1 (by simp; exact fun x hx hxp => hT.dis (hxp ▸ hx))
    refine ⟨hk1, Cl.mono (rTakeRun_ok hR hk hk2) ?_⟩
    rintro r' w' (⟨_, hn, _⟩ | ⟨c, rfl, hcb, hfc, hlc, hR', hk2'⟩)
    · exact absurd hfa (hn a hab)
    · have : a = c := by
        rcases Nat.lt_trichotomy a c with h' | h' | h'
        · exact absurd hfa (hlc a h')
        · exact h'
        · exact absurd hfc (hla c h')
      subst this
      exact ⟨rfl, ⟨_, hT.step hA hk1 hR' hk2'⟩, hk2'⟩

set_option maxRecDepth 20000 in
theorem AllocGoes_ok {w : World} {places : Int} {ld : Bool} {b s : Sl} {bs : List UInt8} {os : List Op} (hb : RdB b bs w) (hbl : b.len ≤ 140737488355328) (h : RdC s.p (s.len * 3) (os.flatMap encO) w) (hbd : ∀ o ∈ os, o.b ≤ 9223372036854775807) :
    Cl Try.prog 6 [.int .i64 places, .bool ld, .slice b.p b.len b.cap, .slice s.p s.len s.cap] false [.sc .b] (fun r w' => r.1 = true ∧ Keeps [] w w') w := by
  apply sumpterlaw08_AllocGoes_call
  unfold sumpterlaw08_AllocGoes
  have hb1 := hb.1
  refine Cl.mono live_ok ?_
  rintro r1 w1 ⟨h1, hk1⟩
  rw [h1]
  have hz1 := hk1.size
  refine Cl.mono (K := fun r w' => Keeps [] w1 w' ∧ ((¬ (1 ≤ places ∧ places ≤ 1024) ∧ r = (none, 1, ())) ∨ ∃ (n : Nat), places = (n : Int) ∧ 1 ≤ n ∧ n ≤ 1024 ∧ r = (some ⟨w1.heap.size, 0, none⟩, 0, ()) ∧ AlAt w' w1.heap.size n (fun _ => false))) ?_ ?_
  · by_cases hpl : 1 ≤ places ∧ places ≤ 1024
    · obtain ⟨n, rfl⟩ : ∃ n : Nat, places = (n : Int) := ⟨places.toNat, by omega⟩
      exact Cl.mono (New_yes (n := n) (by omega) (by omega)) fun r w' ⟨a, b, c⟩ => ⟨c, .inr ⟨n, rfl, by omega, by omega, a, b⟩⟩
    · exact Cl.mono (New_no hpl) fun r w' ⟨a, c⟩ => ⟨by rw [← c]; exact Keeps.refl _ _, .inl ⟨hpl, a⟩⟩
  rintro r2 w2 ⟨hk2, h2⟩
  refine Cl.mono (K := fun r w' => Keeps [] w2 w' ∧ ((¬ (1 ≤ places ∧ places ≤ 1024) ∧ r = (none, 1, ())) ∨ ∃ (n q : Nat) (fq : List Nat), places = (n : Int) ∧ 1 ≤ n ∧ n ≤ 1024 ∧ r = (some ⟨q, 0, none⟩, 0, ()) ∧ RfAt w' q n (fun _ => false) fq ∧ ∀ x ∈ fq, w2.heap.size ≤ x)) ?_ ?_
  · by_cases hpl : 1 ≤ places ∧ places ≤ 1024
    · obtain ⟨n, rfl⟩ : ∃ n : Nat, places = (n : Int) := ⟨places.toNat, by omega⟩
      exact Cl.mono (rNew_yes (n := n) (by omega) (by omega)) fun r w' ⟨q, fq, a, b, c, d⟩ => ⟨c, .inr ⟨n, q, fq, rfl, by omega, by omega, a, b, d⟩⟩
    · exact Cl.mono (rNew_no hpl) fun r w' ⟨a, c⟩ => ⟨by rw [← c]; exact Keeps.refl _ _, .inl ⟨hpl, a⟩⟩
  rintro r3 w3 ⟨hk3, h3⟩
  have hk03 : Keeps [] w w3 := (hk1.trans hk2 (by simp)).trans hk3 (by simp)
  have hz2 := hk2.size
  refine Jp_of (fun st w' => (∃ e : Int, st = (none, e, none, e, ()) ∧ Keeps [] w w') ∨ ∃ (p q n : Nat) (T : Nat → Bool) (fq : List Nat), st = (some ⟨p, 0, none⟩, 0, some ⟨q, 0, none⟩, 0, ()) ∧ Two w w' p q n T fq) ?_ ?_
  · intro J hJ
    cases ld with
    | false =>
      simp only [sx]
      rcases h2 with ⟨hno, rfl⟩ | ⟨n, rfl, g1, g2, rfl, hA⟩
      · rcases h3 with ⟨_, rfl⟩ | ⟨n, q, fq, hpl, g1, g2, _⟩
        · exact hJ _ _ (.inl ⟨1, rfl, hk03⟩)
        · exact absurd (by omega) hno
      · rcases h3 with ⟨hno, rfl⟩ | ⟨n', q, fq, hpl, _, _, rfl, hR, hf⟩
        · exact absurd (by omega) hno
        · have : n' = n := by omega
          subst this
          have hAl := hA.lt
          refine hJ _ _ (.inr ⟨_, q, n', _, fq, rfl, hA.keeps hk3 (by simp), hR, fun hh => ?_, hz1, fun x hx => ?_, hk03⟩)
          · have := hf _ hh; omega
          · have := hf x hx; omega
    | true =>
      simp only [sx]
      have hb3 := rdb_keeps hb hk03 (by simp)
      refine App_of (size := 1) (bytes := 1) (cs := []) (new := cB bs) (SlC.nil _ _) (by have := rdb_rdc hb3; simpa [srcS] using this) (by rw [cB_length, Nat.mul_one]; exact hb1) (cB_one bs) (by kernel_rfl) (by simp; omega) (by simp; omega) ?_
      intro r46 w4 hs4 hl4 hk4 hbb
      have hk4' : Keeps [] w3 w4 := hk4
      rw [List.nil_append] at hs4
      have hl46 : r46.len = b.len := by simpa using hl4
      have hk04 := hk03.trans hk4' (by simp)
      have hz3 := hk03.size
      have hf46 : ∀ x ∈ blk r46, w.heap.size ≤ x := fun x hx => by
        rcases hbb with hb' | hb' <;> rw [hb'] at hx <;> simp [blk] at hx
        omega
      have h46lt := hs4.lt
      have hz4 := hk04.size
      -- both loads, and then the bytes are written over
      have over : ∀ (st : Option Addr × Int × Option Addr × Int × Unit) (w5 : World), Keeps [] w4 w5 → (∀ w6, Keeps (blk r46) w5 w6 → J st w6) →
          (Lp (σ := Int × Unit) (fun L49 s50 =>
            Br (decide ((s50.1 : Int) < ((r46.len : Nat) : Int))) (
            Ix r46 s50.1 1 fun a51 =>
            St a51 (.int .u8 255) <|
            L49 ((w64 (s50.1 + 1)), ())) (J st)) (0, ())) w5 := by
        intro st w5 hk5 hJ5
        refine ⟨fun m st w' => ∃ (i : Nat) (cs : List Value), st = ((i : Int), ()) ∧ m = r46.len - i ∧ i ≤ r46.len ∧ SlC w' r46 1 cs ∧ Keeps (blk r46) w5 w', ⟨r46.len, 0, _, rfl, by simp, by omega, hs4.keeps hk5 (by simp), Keeps.refl _ _⟩, ?_⟩
        rintro _ _ w6 ⟨i, cs, rfl, rfl, hi, hsc, hk6⟩
        dsimp only
        by_cases hil : i < r46.len
        · rw [decide_eq_true (by omega)]
          simp only [sx]
          obtain ⟨b3, o3, hp3, hb3⟩ := hsc.base (by omega)
          have hcl6 := hsc.len
          rw [Ix_base hp3 (by omega) (by omega), Int.toNat_natCast]
          refine hsc.write' (off := o3 + i * 1) hp3 i (by omega) (by omega) rfl fun w7 hs7 hk7 => ?_
          have e2 : w64 ((i : Int) + 1) = ((i + 1 : Nat) : Int) := w64_nat (n := i + 1) (by omega)
          exact ⟨r46.len - (i + 1), by omega, i + 1, _, by rw [e2], rfl, by omega, hs7, hk6.trans hk7 (by simp [hb3])⟩
        · rw [decide_eq_false (by omega)]
          exact hJ5 _ hk6
      by_cases hpl : 1 ≤ places ∧ places ≤ 1024
      case neg =>
        refine Cl.mono (Load_none hpl r46) ?_
        rintro r47 _ ⟨rfl, rfl⟩
        refine Cl.mono (rLoad_none hpl b) ?_
        rintro r48 _ ⟨rfl, rfl⟩
        exact over _ _ (Keeps.refl _ _) fun w6 hk6 => hJ _ _ (.inl ⟨1, rfl, hk04.trans hk6 fun x hx => .inr (hf46 x hx)⟩)
      obtain ⟨n, rfl⟩ : ∃ n : Nat, places = (n : Int) := ⟨places.toNat, by omega⟩
      by_cases hg : Good bs n
      · refine Cl.mono (Load_good (n := n) (by omega) (by omega) hs4.rdb hg) ?_
        rintro r47 w5 ⟨rfl, hA5, hk45⟩
        have hA5l := hA5.lt
        refine Cl.mono (rLoad_ok (n := n) (by omega) (by omega) (rdb_keeps (rdb_keeps hb hk04 (by simp)) hk45 (by simp))) ?_
        rintro r48 w6 (⟨_, hng, _⟩ | ⟨_, q, fq, rfl, hR6, hk56, hfq⟩)
        · exact absurd hg hng
        · have hk46 := hk45.trans hk56 (by simp)
          refine over _ _ hk46 fun w7 hk7 => hJ _ _ (.inr ⟨w4.heap.size, q, n, tOf bs, fq, rfl, Two.keeps ⟨hA5.keeps hk56 (by simp), hR6, fun hh => by have := hfq _ hh; omega, hz4, fun x hx => by have := hfq x hx; omega, hk04.trans hk46 (by simp)⟩ hk7 fun x hx => ?_⟩)
          have := h46lt x hx
          exact ⟨by omega, fun hh => by have := hfq x hh; omega, hf46 x hx⟩
      · refine Cl.mono (Load_bad (n := n) (by omega) (by omega) hs4.rdb hg (by omega)) ?_
        rintro r47 w5 ⟨rfl, hk45⟩
        refine Cl.mono (rLoad_ok (n := n) (by omega) (by omega) (rdb_keeps (rdb_keeps hb hk04 (by simp)) hk45 (by simp))) ?_
        rintro r48 w6 (⟨rfl, _, hk56⟩ | ⟨hg', _⟩)
        · have hk46 := hk45.trans hk56 (by simp)
          exact over _ _ hk46 fun w7 hk7 => hJ _ _ (.inl ⟨11, rfl, (hk04.trans hk46 (by simp)).trans hk7 fun x hx => .inr (hf46 x hx)⟩)
        · exact absurd hg' hg
  clear h2 h3 hk2 hk3 hk03
  rintro _ w4 (⟨e, rfl, hk4⟩ | ⟨p, q, n, T0, fq, rfl, hT0⟩)
  · simp only [Jp, bne_self_eq_false, sx, Option.isNone_none, BEq.rfl, Bool.not_true]
    exact ⟨by trivial, hk4⟩
  refine Jp_of (fun st w' => w4 = w' ∧ st = (false, ())) (fun J hJ => ?_) ?_
  · simp only [bne_self_eq_false, sx, Option.isNone_some, BEq.rfl, Bool.not_true]
    exact hJ _ _ ⟨rfl, rfl⟩
  rintro _ _ ⟨rfl, rfl⟩
  simp only [sx]
  refine Jp_of (fun st w' => w4 = w' ∧ st = (decide (((s.len : Nat) : Int) > 300), ())) (fun J hJ => ?_) ?_
  · simp only [sx, Option.isNone_some]
    exact hJ _ _ ⟨rfl, rfl⟩
  rintro _ _ ⟨rfl, rfl⟩
  by_cases hlong : 300 < s.len
  · rw [decide_eq_true (by omega)]
    exact ⟨by trivial, hT0.keep⟩
  rw [decide_eq_false (by omega)]
  simp only [sx]
  have hol : os.length = s.len := by
    have := h.1
    rw [flat_length encO_len] at this
    omega
  refine ⟨fun m st w' => ∃ (k p : Nat) (T : Nat → Bool), st = (false, some ⟨p, 0, none⟩, (k : Int), ()) ∧ m = s.len - k ∧ k ≤ s.len ∧ Two w w' p q n T fq, ⟨s.len, 0, p, T0, rfl, by simp, by omega, hT0⟩, ?_⟩
  clear hT0
  rintro _ _ w5 ⟨k, p, T, rfl, rfl, hk, hT⟩
  dsimp only
  by_cases hlt : k < s.len
  case neg =>
    rw [decide_eq_false (by omega)]
    simp only [sx]
    refine Cl.mono (same_ok hT.al hT.rf) ?_
    rintro r45 w6 ⟨g, hk'⟩
    exact ⟨g, hT.keep.trans hk' (by simp)⟩
  rw [decide_eq_true (by omega)]
  simp only [sx]
  obtain ⟨o, ho⟩ : ∃ o, os[k]? = some o := ⟨_, List.getElem?_eq_getElem (by omega)⟩
  have hwk : w64 ((k : Int) + 1) = ((k + 1 : Nat) : Int) := w64_nat (n := k + 1) (by omega)
  refine Jp_of (fun st w' => ∃ (p' : Nat) (T' : Nat → Bool), st = (false, some ⟨p', 0, none⟩, ()) ∧ Two w w' p' q n T' fq) ?_ ?_
  case refine_2 =>
    rintro _ w' ⟨p', T', rfl, hT'⟩
    exact ⟨s.len - (k + 1), by omega, k + 1, p', T', by rw [hwk], rfl, by omega, hT'⟩
  intro J12 hJ12
  refine Ix_row (rdc_keeps h hT.keep (by simp)) (by omega) hlt fun a hc => ?_
  have hc' : ∀ j v, j < 3 → (encO o)[j]? = some v → w5.cell? (a.add j) = some v := fun j v hj hv => hc j v hj (by rw [flat_get encO_len os k j hj, ho]; exact hv)
  refine ⟨_, hc' 0 _ (by omega) rfl, _, hc' 1 _ (by omega) rfl, _, hc' 2 _ (by omega) rfl, ?_⟩
  clear hc hc'
  simp (maxSteps := 1000000) (disch := ((try simp only [sx]); first | done | omega)) only [sx, sxc, sxl, Nat.zero_add, Nat.reduceAdd, Nat.reduceLT, true_and]
  generalize hw6 : setObjW (w5.alloc (.cells #[.int .i64 0, .int .i64 0, .bool false] 29)) w5.heap.size (.cells #[.int .i64 o.a, .int .i64 o.b, .bool o.g] 29) = w6
  have hk56 : Keeps [] w5 w6 := by subst hw6; exact ((Keeps.refl [] w5).alloc _).setObjW (.inr (Nat.le_refl _)) _
  have hB6 : w6.heap[w5.heap.size]? = some (.cells #[.int .i64 o.a, .int .i64 o.b, .bool o.g] 29) := by subst hw6; exact hp_setObjW_same (by rw [World.size_alloc]; omega)
  have hT6 := hT.keeps hk56 (by simp)
  generalize hB : w5.heap.size = B at *
  have hBp : B ≠ p := by have := hT.al.lt; omega
  have hBq : B ∉ fq := fun hh => by have := hT.rf.lt B hh; omega
  refine Jp_of (fun st w' => st = (true, ()) ∧ w'.heap[B]? = some (.cells #[.int .i64 o.a, .int .i64 o.b, .bool o.g] 29) ∧ ∃ T' : Nat → Bool, Two w w' p q n T' fq) ?_ ?_
  · intro J hJ
    have hob := hbd o (List.mem_of_getElem? ho)
    have keepB : ∀ {wa wb wc : World}, wa.heap[B]? = some (.cells #[.int .i64 o.a, .int .i64 o.b, .bool o.g] 29) → Keeps [p] wa wb → Keeps fq wb wc → wb.heap[B]? = some (.cells #[.int .i64 o.a, .int .i64 o.b, .bool o.g] 29) ∧ wc.heap[B]? = some (.cells #[.int .i64 o.a, .int .i64 o.b, .bool o.g] 29) := fun ha k1 k2 =>
      have h1 := k1.at ha (by simp; exact hBp)
      ⟨h1, k2.at h1 hBq⟩
    simp (maxSteps := 1000000) only [sx, sxl, hB6, Nat.zero_add]
    refine Br_of (fun _ => ?_) (fun _ => ?_)
    · -- Take
      refine Cl.mono (Take_ok hT6.al) ?_
      rintro r29 w7 hr
      obtain ⟨k1, hC⟩ := both_run hT6 (k := 1) (by omega) (by decide) hr
      refine Cl.mono hC ?_
      rintro r30 w8 ⟨rfl, hT', k2⟩
      simp only [sx, BEq.rfl]
      exact hJ _ _ ⟨rfl, (keepB hB6 k1 k2).2, hT'⟩
    refine Br_of (fun _ => ?_) (fun _ => ?_)
    · -- TakeRun
      simp only [sx, sxl, hB6, Nat.zero_add]
      by_cases hk1 : o.b < 1
      · refine Cl.mono (TakeRun_none hT6.al hk1) ?_
        rintro r32 _ ⟨rfl, rfl⟩
        simp only [sx, sxl, hB6, Nat.zero_add]
        refine Cl.mono (rTakeRun_none hT6.rf hk1) ?_
        rintro r34 _ ⟨rfl, rfl⟩
        simp only [sx, BEq.rfl]
        exact hJ _ _ ⟨rfl, hB6, T, hT6⟩
      · obtain ⟨j, hj⟩ : ∃ j : Nat, o.b = (j : Int) := ⟨o.b.toNat, by omega⟩
        rw [hj] at hob
        have hB6' := hB6
        rw [hj] at hB6'
        rw [hj]
        refine Cl.mono (TakeRun_ok hT6.al (k := j) (by omega) (by omega)) ?_
        rintro r32 w7 hr
        obtain ⟨k1, hC⟩ := both_run hT6 (k := j) (by omega) (by omega) hr
        have hB7 := k1.at hB6' (by simp; exact hBp)
        simp only [sx, sxl, hB7, Nat.zero_add]
        refine Cl.mono hC ?_
        rintro r34 w8 ⟨rfl, hT', k2⟩
        simp only [sx, BEq.rfl]
        exact hJ _ _ ⟨rfl, (keepB hB6 k1 k2).2, hT'⟩
    have hkd : Keeps [] w6 w6.drew := (Keeps.refl [] w6).drew
    have hTd := hT6.keeps hkd (by simp)
    refine Br_of (fun _ => ?_) (fun _ => ?_)
    · -- Give
      simp only [sx, sxl, hB6, Nat.zero_add]
      refine Cl.mono (Give_ok hTd.al o.b) ?_
      rintro r37 w7 ⟨g1, hA7, k1⟩
      have hB7 := k1.at (hkd.at hB6 (by simp)) (by simp; exact hBp)
      simp only [sx, sxl, hB7, Nat.zero_add, and_true, true_and]
      have hR7 := hTd.rf.keeps k1 (by simp; exact fun x hx hxp => hT6.dis (hxp ▸ hx))
      refine Cl.mono (rGive_ok hR7 o.b) ?_
      rintro r39 w8 ⟨g2, hR8, k2⟩
      rw [g1, g2, beq_self_eq_true]
      exact hJ _ _ ⟨rfl, k2.at hB7 hBq, _, hTd.step hA7 k1 hR8 k2⟩
    refine Br_of (fun _ => ?_) (fun _ => hJ _ _ ⟨rfl, hB6, T, hT6⟩)
    · -- Mark
      simp only [sx, sxl, hB6, Nat.zero_add]
      refine Cl.mono (Mark_ok hTd.al o.b) ?_
      rintro r42 w7 ⟨g1, hA7, k1⟩
      have hB7 := k1.at (hkd.at hB6 (by simp)) (by simp; exact hBp)
      simp only [sx, sxl, hB7, Nat.zero_add, and_true, true_and]
      have hR7 := hTd.rf.keeps k1 (by simp; exact fun x hx hxp => hT6.dis (hxp ▸ hx))
      refine Cl.mono (rMark_ok hR7 o.b) ?_
      rintro r44 w8 ⟨g2, hR8, k2⟩
      rw [g1, g2, beq_self_eq_true]
      exact hJ _ _ ⟨rfl, k2.at hB7 hBq, _, hTd.step hA7 k1 hR8 k2⟩
  rintro _ w7 ⟨rfl, hB7, T', hT7⟩
  refine Jp_of (fun st w' => st = (false, ()) ∧ Keeps [] w7 w') ?_ ?_
  · intro J hJ
    simp only [sx, Bool.not_true]
    refine Cl.mono (same_ok hT7.al hT7.rf) ?_
    rintro r27 w8 ⟨g, hk8⟩
    rw [g]
    exact hJ _ _ ⟨rfl, hk8⟩
  rintro _ w8 ⟨rfl, hk8⟩
  have hT8 := hT7.keeps hk8 (by simp)
  have hB8 := hk8.at hB7 (by simp)
  simp only [sx, sxl, hB8, Nat.zero_add]
  refine Br_of (fun hg => ?_) (fun hg => hJ12 _ _ ⟨p, T', rfl, hT8⟩)
  refine Cl.mono (Clone_ok hT8.al) ?_
  rintro r24 w9 ⟨g9, hA9, hk9⟩
  rw [g9]
  simp only [sx, Option.isNone_some]
  have hT9 := hT8.keeps hk9 (by simp)
  have hpl := hT8.al.lt
  have hz8 := hT8.keep.size
  have hcf : w8.heap.size ∉ fq := fun hh => by have := hT8.rf.lt _ hh; omega
  have done : ∀ w10 : World, Keeps [p] w9 w10 → J12 (false, some ⟨w8.heap.size, 0, none⟩, ()) w10 := fun w10 k10 =>
    hJ12 _ _ ⟨w8.heap.size, T', rfl, ⟨hA9.keeps k10 (by simp; omega), hT9.rf.keeps k10 (by simp; exact fun x hx hxp => hT9.dis (hxp ▸ hx)), hcf, hz8, hT9.nq, hT9.keep.trans k10 (by simp; exact hT9.np)⟩⟩
  refine Cl.mono (Take_ok hT9.al) ?_
  rintro r25 w10 (⟨_, _, rfl⟩ | ⟨a, _, _, _, _, hA10, hk10⟩)
  · refine Cl.mono (Give_ok hT9.al 0) ?_
    rintro r26 w11 ⟨_, _, hk11⟩
    exact done w11 hk11
  · refine Cl.mono (Give_ok hA10 0) ?_
    rintro r26 w11 ⟨_, _, hk11⟩
    exact done w11 (hk10.trans hk11 (by simp))

end Go.Proofs.Ytdpbgcplcjhjmaa
