/- CacheRule, walked. -/
import Derived.Test.YtelojafogbmbcaaCr
import Derived.Test.YtelojafogbmbcaaDi
import Derived.Test.YtelojafogbmbcaaCh
set_option linter.unusedVariables false
set_option linter.unusedSimpArgs false
namespace Go.Proofs.Ytelojafogbmbcaa
open Go Go.Sx

/-- A row of values of one cell. -/
def rowO (n : Nat) (g : Nat → Value) (t : TypeId) : Obj := .cells ((List.range n).map g).toArray t

theorem rowO_get {n : Nat} (g : Nat → Value) (t : TypeId) {k : Nat} (hk : k < n) : cellO (some (rowO n g t)) k = some (g k) := by
  simp only [rowO, cellO, List.getElem?_toArray, List.getElem?_map, List.getElem?_range hk, Option.map_some]

theorem rowO_congr {n : Nat} {g g' : Nat → Value} (t : TypeId) (h : ∀ k, k < n → g k = g' k) : rowO n g t = rowO n g' t := by
  unfold rowO
  congr 2
  apply List.map_congr_left
  intro k hk
  exact h k (by simpa using hk)

theorem row_st {w0 w : World} {B : BkI Try.prog} {N c n : Nat} {L : List (Sl × List UInt8)} {Z : List (Nat × Obj)} {s : CSt B} {a m : Nat} {g : Nat → Value} {t : TypeId} (h : CS B w0 N c n L ((a, rowO m g t) :: Z) s w) (hZ : ∀ z ∈ Z, z.1 ≠ a) {k : Nat} (hk : k < m) {x : Value} (hx : x.oneCell' = true) {K : Pr}
    (kk : ∀ w', CS B w0 N c n L ((a, rowO m (fun i => if i = k then x else g i) t) :: Z) s w' → K w') : St ⟨a, k, none⟩ x K w := by
  have ha := h.at (z := (a, rowO m g t)) List.mem_cons_self
  refine set_box (cs := ((List.range m).map g).toArray) (t := t) ha k x hx (by simp; omega) ?_
  intro w' h1 h2
  refine kk w' (h.turn h2 ?_ hZ)
  rw [h1]
  simp only [rowO]
  congr 2
  apply Array.toList_inj.1
  apply List.ext_getElem?
  intro j
  simp only [Array.toList_setIfInBounds, List.getElem?_set]
  by_cases hj : k = j
  · subst hj
    simp [hk]
  · rw [if_neg hj]
    by_cases hjm : j < m
    · simp [hjm, Ne.symm hj]
    · simp [hjm]

theorem CS.swap {w0 w : World} {B : BkI Try.prog} {N c n : Nat} {L : List (Sl × List UInt8)} {s : CSt B} {x y : Nat × Obj} (h : CS B w0 N c n L [x, y] s w) : CS B w0 N c n L [y, x] s w := h.drop (fun _ h => h) (fun z hz => by
  rcases List.mem_cons.1 hz with rfl | hz
  · simp
  · simp at hz; simp [hz]) (Nat.le_refl _)

theorem CS.bkx {w0 w : World} {b : Nat} {N c n : Nat} {L : List (Sl × List UInt8)} {Z : List (Nat × Obj)} {s : CSt (refB b)} (h : CS (refB b) w0 N c n L Z s w) : ∃ m sl, BkX w b m sl s.b.σ ∧ s.b.σ.calls.length + n ≤ 1099511627776 := by
  obtain ⟨F, G, h⟩ := h
  obtain ⟨m, sl, hx, _⟩ := (h.bk : BkAt b w G s.b.σ)
  exact ⟨m, sl, hx, h.rs⟩

def strs (now : Int → List UInt8) : Obj := rowO 7 (fun i => .string (BA (now i))) 57
def lsns (lsn : Int → Int) : Obj := rowO 7 (fun i => .int .u64 (lsn i)) 58

theorem idx7 {a id : Nat} (h : id < 7) {K : Addr → Pr} {w : World} (k : K ⟨a, id, none⟩ w) : IxR ⟨a, 0, none⟩ 7 (id : Int) 1 K w := by
  simp only [IxR, add_of, Nat.mul_one, Nat.zero_add, Int.toNat_natCast]
  exact ⟨by omega, by omega, k⟩

/-- The calls that are new are looked at. -/
theorem calls_ok {w0 w : World} {b c N n a6 a7 : Nat} {now : Int → List UInt8} {lsn : Int → Int} {s : CSt (refB b)} (h : CS (refB b) w0 N c n [] [(a6, strs now), (a7, lsns lsn)] s w) {seen : Nat} (hs : seen ≤ s.b.σ.calls.length)
    (hok : OkC now lsn (maxF (s.b.σ.calls.take seen)) (s.b.σ.calls.drop seen)) {R : Bool → Pr} {K : Bool → Pr} (t : Bool) (hK : ∀ w', CS (refB b) w0 N c n [] [(a6, strs now), (a7, lsns lsn)] s w' → K t w') {x28 : Sl} (hx28 : ∃ m, BkX w b m x28 s.b.σ) {Lp' : Pr} (hlp :
    Lp' = Lp (σ := Bool × Int × Int × Unit) (fun L29 s30 =>
  Br (decide ((s30.2.2.1 : Int) < ((x28.len : Nat) : Int))) (
  Ix x28 s30.2.2.1 4 fun a31 =>
  LdI .i64 (a31.add 0) fun x32 =>
  LdI .i64 (a31.add 1) fun x33 =>
  LdI .u64 (a31.add 2) fun x34 =>
  LdS (a31.add 3) fun x35 =>
  New #[(.int .i64 0), (.int .i64 0), (.int .u64 0), (.string (BA []))] 60 fun a36 =>
  St (a36.add 0) (.int .i64 x32) <|
  St (a36.add 1) (.int .i64 x33) <|
  St (a36.add 2) (.int .u64 x34) <|
  St (a36.add 3) (.string x35) <|
  Jp (σ := Int × Unit) (fun s38 =>
  Jp (σ := Bool × Unit) (fun s40 =>
  Br s40.1 (
  R false) (
  L29 (s30.1, s38.1, (w64 (s30.2.2.1 + 1)), ()))) fun J39 =>
  Dr <|
  Br (decide ((s30.2.2.1 : Int) ≥ (seen : Int))) (
  LdI .i64 (a36.add 0) fun x41 =>
  Br ((x41 : Int) == 2) (
  LdI .i64 (a36.add 1) fun x42 =>
  IxR ⟨a7, 0, none⟩ 7 x42 1 fun a43 =>
  LdI .u64 a43 fun x44 =>
  Br (decide ((x44 : Int) > s38.1)) (
  J39 (true, ())) (
  LdS (a36.add 3) fun x45 =>
  LdI .i64 (a36.add 1) fun x46 =>
  IxR ⟨a6, 0, none⟩ 7 x46 1 fun a47 =>
  LdS a47 fun x48 =>
  J39 ((!(seq x45 x48)), ()))) (
  J39 (false, ()))) (
  J39 (false, ()))) fun J37 =>
  LdI .i64 (a36.add 0) fun x49 =>
  Br ((x49 : Int) == 3) (
  LdI .u64 (a36.add 2) fun x50 =>
  J37 ((if (x50 : Int) > s30.2.1 then x50 else s30.2.1), ())) (
  J37 (s30.2.1, ()))) (K s30.1)) (t, 0, 0, ())) : Lp' w := by
  subst hlp
  obtain ⟨m, hx28⟩ := hx28
  have hlen := hx28.row.slen encC_length (by omega)
  obtain ⟨m', sl', _, hn⟩ := h.bkx
  refine ⟨fun k st w' => ∃ i : Nat, st = (t, (s.b.σ.calls.take i).foldl stepF 0, (i : Int), ()) ∧ i ≤ s.b.σ.calls.length ∧ k = s.b.σ.calls.length - i ∧ Keeps [] w w', ⟨s.b.σ.calls.length, 0, rfl, by omega, rfl, Keeps.refl _ _⟩, ?_⟩
  rintro _ _ w1 ⟨i, rfl, hi, rfl, hk1⟩
  dsimp only
  rw [hlen]
  by_cases hil : i < s.b.σ.calls.length
  · rw [decide_eq_true (by omega)]
    simp only [sx]
    obtain ⟨cl, hcl⟩ : ∃ cl, s.b.σ.calls[i]? = some cl := ⟨_, List.getElem?_eq_getElem hil⟩
    have hrow := hx28.row.keeps hk1 (by simp)
    obtain ⟨ba, bo, hp, _⟩ := hrow.base (by omega)
    rw [Ix_base hp (by omega) (by omega), Int.toNat_natCast]
    have hit := fun j hj => hrow.item encC_length hp hcl j hj
    have e0 : cellO w1.heap[ba]? (bo + i * 4 + 0) = some (.int .i64 cl.kind) := hit 0 (by omega)
    have e1 : cellO w1.heap[ba]? (bo + i * 4 + 1) = some (.int .i64 cl.id) := hit 1 (by omega)
    have e2 : cellO w1.heap[ba]? (bo + i * 4 + 2) = some (.int .u64 cl.lsn) := hit 2 (by omega)
    have e3 : cellO w1.heap[ba]? (bo + i * 4 + 3) = some (.string (BA cl.bytes)) := hit 3 (by omega)
    simp (disch := ((try simp only [sx]); first | done | omega)) only [sx, sxc, sxl, e0, e1, e2, e3, Nat.zero_add, Nat.reduceAdd, Nat.reduceLT, true_and]
    generalize hq : w1.heap.size = q
    generalize hw2 : setObjW (w1.alloc _) q _ = w2
    have hk12 : Keeps [] w1 w2 := by subst hw2; exact ((Keeps.refl [] w1).alloc _).setObjW (.inr (by omega)) _
    have hq2 : w2.heap[q]? = some (.cells #[.int .i64 cl.kind, .int .i64 cl.id, .int .u64 cl.lsn, .string (BA cl.bytes)] 60) := by subst hw2; exact hp_setObjW_same (by rw [World.size_alloc]; omega)
    have hC2 := h.grow (hk1.trans hk12 (by simp))
    have hstep : (s.b.σ.calls.take (i + 1)).foldl stepF 0 = stepF ((s.b.σ.calls.take i).foldl stepF 0) cl := by
      rw [List.take_add_one, hcl, List.foldl_append]; rfl
    refine Jp_of (fun st w' => w2 = w' ∧ st = ((s.b.σ.calls.take (i + 1)).foldl stepF 0, ())) ?_ ?_
    · intro J hJ
      simp only [sx, sxl, hq2, Nat.zero_add, Nat.reduceAdd]
      rw [hstep]  at hJ
      refine Br_of (fun hc => ?_) (fun hc => ?_)
      · simp only [sx, sxl, hq2, Nat.zero_add, Nat.reduceAdd]
        refine hJ _ _ ⟨rfl, ?_⟩
        have hc : cl.kind = 3 := by simpa using hc
        unfold stepF
        rw [if_pos hc]
      · refine hJ _ _ ⟨rfl, ?_⟩
        have hc : ¬ cl.kind = 3 := by simpa using hc
        unfold stepF
        rw [if_neg hc]
    rintro _ _ ⟨rfl, rfl⟩
    refine Jp_of (fun st w' => Keeps [] w w' ∧ st = (false, ())) ?_ ?_
    · intro J hJ
      have hkd : Keeps [] w w2.drew := (hk1.trans hk12 (by simp)).drew
      simp only [sx]
      refine Br_of (fun hge => ?_) (fun _ => hJ _ _ ⟨hkd, rfl⟩)
      simp only [decide_eq_true_eq] at hge
      simp only [sx, sxl, hq2, Nat.zero_add, Nat.reduceAdd]
      refine Br_of (fun hk2 => ?_) (fun _ => hJ _ _ ⟨hkd, rfl⟩)
      have hk2 : cl.kind = 2 := by simpa using hk2
      have hd : (s.b.σ.calls.drop seen)[i - seen]? = some cl := by rw [List.getElem?_drop, show seen + (i - seen) = i from by omega]; exact hcl
      obtain ⟨g1, g6, g3, g4⟩ := OkC_get hok hd hk2
      have hfold : ((s.b.σ.calls.drop seen).take (i - seen + 1)).foldl stepF (maxF (s.b.σ.calls.take seen)) = (s.b.σ.calls.take (i + 1)).foldl stepF 0 := by
        have e : s.b.σ.calls.take (i + 1) = s.b.σ.calls.take seen ++ (s.b.σ.calls.drop seen).take (i - seen + 1) := by
          rw [← List.take_add]
          congr 1
          omega
        rw [maxF, ← List.foldl_append, ← e]
      rw [hfold] at g3
      obtain ⟨k, hk⟩ : ∃ k : Nat, cl.id = (k : Int) := ⟨cl.id.toNat, by omega⟩
      simp only [sx, sxl, hq2, Nat.zero_add, Nat.reduceAdd]
      rw [hk] at g1 g6 g3 g4 ⊢
      refine idx7 (by omega) ?_
      have hC2d := hC2.grow ((Keeps.refl [] w2).drew)
      rw [LdI_c, hC2d.at (z := (a7, lsns lsn)) (by simp), lsns, rowO_get _ _ (by omega)]
      simp only [sx]
      rw [decide_eq_false (by omega)]
      simp only [sx, sxl, hq2, Nat.zero_add, Nat.reduceAdd]
      rw [hk]
      refine idx7 (by omega) ?_
      rw [LdS_c, hC2d.at (z := (a6, strs now)) (by simp), strs, rowO_get _ _ (by omega)]
      simp only [sx, g4, seq_refl]
      exact hJ _ _ ⟨hkd, rfl⟩
    rintro _ w3 ⟨hk3, rfl⟩
    exact ⟨s.b.σ.calls.length - (i + 1), by omega, i + 1, by rw [show w64 ((i : Int) + 1) = ((i + 1 : Nat) : Int) from w64_nat (n := i + 1) (by omega)], by omega, rfl, hk3⟩
  · rw [decide_eq_false (by omega)]
    simp only [sx]
    exact hK _ (h.grow hk1)

def now0 (k : Int) : List UInt8 := (newPg 6 k).getD []

theorem idx7' {a id : Nat} (h : id < 7) {K : Addr → Pr} {w : World} {x : Int} (hx : x = (id : Int)) (k : K ⟨a, id, none⟩ w) : IxR ⟨a, 0, none⟩ 7 x 1 K w := by subst hx; exact idx7 h k

/-- What is so between two operations. -/
structure RI (w0 : World) (b c a6 a7 pl n : Nat) (s : CSt (refB b)) (now : Int → List UInt8) (lsn : Int → Int) (N : Nat) (w : World) : Prop where
  cs : CS (refB b) w0 N c n [] [(a6, strs now), (a7, lsns lsn)] s w
  inv : RInv s now lsn
  len : s.ps.length = pl
  na : a6 ≠ a7

theorem pin_len {b : Nat} {s : CSt (refB b)} (hh : s.hand < s.ps.length) (hf : Fine s) {id : Int} (h1 : 1 ≤ id) (h2 : id ≤ 6) : (mPin (refB b) s id).1.ps.length = s.ps.length := (pin_law hh hf h1 h2).2.2.1
theorem unpin_len {b : Nat} (s : CSt (refB b)) (id : Int) : (mUnpin (refB b) s id).1.ps.length = s.ps.length := by
  unfold mUnpin
  split
  · split
    · split
      · rfl
      · simp
    · rfl
  · rfl
theorem put_len {b : Nat} (s : CSt (refB b)) (id : Int) (bs : List UInt8) (l : Int) : (mPut (refB b) s id bs l).1.ps.length = s.ps.length := by
  unfold mPut
  split
  · split
    · split
      · rfl
      · simp
    · rfl
  · rfl

theorem CacheRule_ok {w : World} {places : Int} {l : Sl} {os : List Op} (h : RdC l.p (l.len * 4) (os.flatMap encO) w) (htx : ∀ o ∈ os, o.text.size ≤ 140737488355328) :
    Cl Try.prog i_sumpterlaw10_CacheRule [.int .i64 places, .slice l.p l.len l.cap] false [.sc .b] (fun r w' => r.1 = true ∧ Keeps [] w w') w := by
  refine Cl_gen fun R hR => ?_
  apply sumpterlaw10_CacheRule_call
  unfold sumpterlaw10_CacheRule
  refine Cl.mono live_ok ?_
  rintro r1 w1 ⟨hr1, hk1⟩
  rw [hr1]
  refine ⟨by decide, by decide, ?_⟩
  obtain ⟨pl, hp1, hp6, hpl⟩ := mod6 places
  rw [hpl]
  refine Cl.mono (NewBack_ok 6 (-1) (by decide) (by decide) (by decide)) ?_
  rintro r2 w2 ⟨b, F, hr2, hb, hk2, hF⟩
  rw [hr2]
  have hk02 : Keeps [] w w2 := hk1.trans hk2 (by simp)
  have hz1 := hk1.size
  refine Cl.mono (make_ok (places := pl) hk02 hp1 (by omega) hb (fun x hx => by have := hF x hx; omega) (newB_plen _ _)) ?_
  rintro r3 w3 ⟨c, hr3, h3⟩
  rw [hr3]
  refine Jp_of (fun st w' => w3 = w' ∧ st = (decide (l.len > 200), ())) ?_ ?_
  · intro J hJ
    simp only [Option.isNone_some, sx]
    refine hJ _ _ ⟨rfl, ?_⟩
    congr 1
    apply decide_eq_decide.2
    omega
  rintro _ _ ⟨rfl, rfl⟩
  by_cases hlen : l.len > 200
  · rw [decide_eq_true hlen]
    exact hR _ _ ⟨rfl, h3.kp⟩
  rw [decide_eq_false hlen]
  have hz02 := hk02.size
  simp only [sx]
  generalize ha6 : w3.heap.size = a6
  generalize hw4 : w3.alloc _ = w4
  have ha4 : w4.heap[a6]? = some (strs fun _ => []) := by rw [← hw4]; exact hp_alloc_eq _ _ ha6.symm
  have hk4 : Keeps [] w3 w4 := by rw [← hw4]; exact (Keeps.refl [] w3).alloc _
  have hz4 : w4.heap.size = a6 + 1 := by rw [← hw4, World.size_alloc, ha6]
  generalize hw5 : w4.alloc _ = w5
  have ha5 : w5.heap[a6 + 1]? = some (lsns fun _ => 0) := by rw [← hw5]; exact hp_alloc_eq _ _ hz4.symm
  have hk5 : Keeps [] w4 w5 := by rw [← hw5]; exact (Keeps.refl [] w4).alloc _
  generalize hs0 : newC (B := refB b) pl ⟨newB 6 (-1), newB_plen _ _⟩ = s0 at h3
  have h5 : CS (refB b) w 0 c 2000 [] [(a6, strs fun _ => []), (a6 + 1, lsns fun _ => 0)] s0 w5 := (((h3.addZ hk4 ha4 (by omega)).addZ hk5 ha5 (by omega)).less (by decide)).swap
  have hσ0 : s0.b.σ = newB 6 (-1) := by rw [← hs0]; rfl
  -- what is at hand at first
  refine ⟨fun k st w' => ∃ i : Nat, st = ((i : Int), ()) ∧ 1 ≤ i ∧ i ≤ 7 ∧ k = 7 - i ∧ CS (refB b) w 0 c 2000 [] [(a6, strs fun k => if k < i then now0 k else []), (a6 + 1, lsns fun _ => 0)] s0 w', ⟨6, 1, rfl, by omega, by omega, rfl, ?_⟩, ?_⟩
  · have e : (strs fun _ => []) = strs fun k => if k < ((1 : Nat) : Int) then now0 k else [] := by
      unfold strs
      refine rowO_congr _ fun k hk => ?_
      dsimp only
      by_cases h0 : k = 0
      · subst h0; rfl
      · rw [if_neg (by omega)]
    rw [← e]
    exact h5
  rintro k _ w6 ⟨i, rfl, hi1, hi7, rfl, h6⟩
  dsimp only
  by_cases hi6 : i ≤ 6
  · rw [decide_eq_true (by omega)]
    simp only [sx]
    obtain ⟨m, sl, hX, _⟩ := h6.bkx
    obtain ⟨t, hbox⟩ := hX.box
    obtain ⟨kv, hm1, hm2⟩ := hX.mp
    simp only [sx, sxl, hbox, Nat.zero_add]
    have hg := hm2 (i : Int)
    have hpg : s0.b.σ.pages (i : Int) = some [UInt8.ofNat (97 + i)] := by
      rw [hσ0]
      simp only [newB, newPg]
      rw [if_pos (by omega)]
      simp
    rw [hpg] at hg
    refine LkK_some (kd := .s) (x := BA [UInt8.ofNat (97 + i)]) (keyOk_int _) hm1 hg ?_
    refine idx7 (by omega) ?_
    refine row_st h6 (by simp) (by omega) rfl ?_
    intro w7 h7
    refine ⟨7 - (i + 1), by omega, i + 1, by rw [show w64 ((i : Int) + 1) = ((i + 1 : Nat) : Int) from w64_nat (n := i + 1) (by omega)], by omega, by omega, rfl, ?_⟩
    have e : (rowO 7 (fun j => if j = i then .string (BA [UInt8.ofNat (97 + i)]) else .string (BA (if (j : Int) < (i : Int) then now0 j else []))) 57) = strs fun k => if k < ((i + 1 : Nat) : Int) then now0 k else [] := by
      unfold strs
      refine rowO_congr _ fun k hk => ?_
      dsimp only
      by_cases h0 : k = i
      · subst h0
        rw [if_pos rfl, if_pos (by omega)]
        simp only [now0, newPg]
        rw [if_pos (by omega)]
        simp
      · rw [if_neg h0]
        by_cases hlt : (k : Int) < (i : Int)
        · rw [if_pos hlt, if_pos (by omega)]
        · rw [if_neg hlt, if_neg (by omega)]
    rw [← e]
    exact h7
  have : i = 7 := by omega
  subst this
  rw [decide_eq_false (by omega)]
  simp only [sx]
  have e7 : (strs fun k => if k < ((7 : Nat) : Int) then now0 k else []) = strs now0 := by
    unfold strs
    refine rowO_congr _ fun k hk => ?_
    dsimp only
    rw [if_pos (by omega)]
  rw [e7] at h6
  have hI0 : RI w b c a6 (a6 + 1) pl 2000 s0 now0 (fun _ => 0) 0 w6 := by
    have hg : ∀ (i : Nat) (p : Pg), s0.ps[i]? ≠ some (some p) := by
      intro i p h
      rw [← hs0] at h
      simp only [newC, List.getElem?_replicate] at h
      split at h <;> cases h
    refine ⟨h6, ⟨fun i j p q hp => absurd hp (hg i p), ⟨fun i p hp => absurd hp (hg i p), fun i p hp => absurd hp (hg i p), by rw [hσ0]; rfl, fun k h1 h2 => ?_⟩, fun i p hp => absurd hp (hg i p), fun k h1 h2 => .inr ?_, fun k h1 h2 => .inr (by rw [hσ0]; exact Int.le_refl _), by rw [hσ0]; rfl, fun k h1 h2 => ?_⟩, by rw [← hs0]; simp [newC], by omega⟩
    · rw [hσ0]
      simp only [newB, newPg]
      rw [if_pos (by omega)]
      simp
    · rw [hσ0]
      simp only [newB, now0, newPg]
      rw [if_pos (by omega)]
      rfl
    · simp only [now0, newPg]
      rw [if_pos (by omega)]
      simp
  -- the operations
  refine ⟨fun m st w' => ∃ (i : Nat) (s : CSt (refB b)) (now : Int → List UInt8) (lsn : Int → Int) (t : Bool), st = (t, (s.b.σ.calls.length : Int), (i : Int), ()) ∧ i ≤ l.len ∧ m = l.len - i ∧ RI w b c a6 (a6 + 1) pl (2000 - 3 * i) s now lsn i w', ⟨l.len, 0, s0, now0, fun _ => 0, false, by rw [hσ0]; rfl, by omega, rfl, hI0⟩, ?_⟩
  rintro _ _ w5 ⟨i, s, now, lsn, t, rfl, hi, rfl, h5⟩
  dsimp only
  by_cases hil : i < l.len
  · rw [decide_eq_true (by omega)]
    simp only [sx]
    have hkp5 : Keeps [] w w5 := h5.cs.kp
    refine op_row h hkp5 hil fun ad o ho hc => ?_
    have hotx := htx o (List.mem_of_getElem? ho)
    refine ⟨_, hc 0 _ (by omega) rfl, _, hc 1 _ (by omega) rfl, _, hc 2 _ (by omega) rfl, _, hc 3 _ (by omega) rfl, ?_⟩
    simp (disch := ((try simp only [sx]); first | done | omega)) only [sx, sxc, sxl, Nat.zero_add, Nat.reduceAdd, Nat.reduceLT, true_and]
    generalize hq : w5.heap.size = q
    generalize hw6 : setObjW (w5.alloc _) q _ = w6'
    have hk56 : Keeps [] w5 w6' := by subst hw6; exact ((Keeps.refl [] w5).alloc _).setObjW (.inr (by omega)) _
    have hq6 : w6'.heap[q]? = some (.cells #[.int .i64 o.act, .int .i64 o.n, .string o.text, .int .u64 o.lsn] 33) := by subst hw6; exact hp_setObjW_same (by rw [World.size_alloc]; omega)
    have hC6 := (h5.cs.addZ (a := q) (o := .cells #[.int .i64 o.act, .int .i64 o.n, .string o.text, .int .u64 o.lsn] 33) hk56 hq6 (by omega))
    have hql : w.heap.size ≤ q := by have := hkp5.size; omega
    have hqa : a6 + 1 < q := by have := hp_lt (h5.cs.at (z := (a6 + 1, lsns lsn)) (by simp)); omega
    obtain ⟨id, hid1, hid6, hid⟩ := mod6 o.n
    simp only [hid]
    refine ⟨by decide, by decide, ?_⟩
    have hh := h5.cs.uq.2.2.1
    have hn3 : 2000 - 3 * (i + 1) + 3 ≤ 2000 - 3 * i := by omega
    refine Cl.mono ((hC6.less hn3).pin (by omega) id) ?_
    rintro r7 w7 ⟨hr7, h7⟩
    obtain ⟨new, p1, p2, p3, p4, p5⟩ := pin_rel hh h5.inv (id := (id : Int)) (by omega) (by omega)
    have hplen := pin_len hh h5.inv.fine (id := (id : Int)) (by omega) (by omega)
    have hlog := h5.inv.log
    rw [hr7]
    refine Jp_of (fun st w' => ∃ (s' : CSt (refB b)) (now' : Int → List UInt8) (lsn' : Int → Int) (t' : Bool) (new' : List BCall), st = (t', ()) ∧ RI w b c a6 (a6 + 1) pl (2000 - 3 * (i + 1)) s' now' lsn' (i + 1) w' ∧ s'.b.σ.calls = s.b.σ.calls ++ new' ∧ OkC now' lsn' (maxF s.b.σ.calls) new') ?_ ?_
    case refine_2 =>
      rintro _ w8 ⟨s', now', lsn', t', new', rfl, h8, h9, h10⟩
      obtain ⟨m, sl, hX, _⟩ := h8.cs.bkx
      obtain ⟨tb, hbox⟩ := hX.box
      simp only [sx, sxl, hbox, Nat.zero_add, Nat.reduceAdd]
      refine calls_ok (seen := s.b.σ.calls.length) h8.cs (by rw [h9]; simp) (by rw [h9]; simpa using h10) (R := fun b => R (b, ())) (K := fun t'' => LdL ⟨b, 2, none⟩ fun x52 w' => ∃ m, m < l.len - i ∧ ∃ (i_1 : Nat) (s : CSt (refB b)) (now : Int → List UInt8) (lsn : Int → Int) (t : Bool), (t'', ((x52.len : Nat) : Int), w64 ((i : Int) + 1), ()) = (t, (s.b.σ.calls.length : Int), (i_1 : Int), ()) ∧ i_1 ≤ l.len ∧ m = l.len - i_1 ∧ RI w b c a6 (a6 + 1) pl (2000 - 3 * i_1) s now lsn i_1 w') t' ?_ ⟨m, hX⟩ rfl
      intro w9 hC9
      obtain ⟨m9, sl9, hX9, _⟩ := hC9.bkx
      obtain ⟨tb9, hbox9⟩ := hX9.box
      simp only [sx, sxl, hbox9, Nat.zero_add, Nat.reduceAdd]
      have hl9 := hX9.row.slen encC_length (by omega)
      exact ⟨l.len - (i + 1), by omega, i + 1, s', now', lsn', t', by rw [hl9, show w64 ((i : Int) + 1) = ((i + 1 : Nat) : Int) from w64_nat (n := i + 1) (by omega)], by omega, rfl, hC9, h8.inv, h8.len, h8.na⟩
    intro J hJ
    refine Br_of (fun h0 => ?_) (fun h0 => ?_)
    case refine_2 =>
      exact hJ _ _ ⟨_, now, lsn, t, new, rfl, ⟨h7.drop (by simp) (fun z hz => List.mem_cons_of_mem _ hz) (by omega), p4, hplen.trans h5.len, h5.na⟩, p1, by rw [← hlog]; exact p2⟩
    have h0 : (mPin (refB b) s id).2.2 = 0 := by simpa using h0
    obtain ⟨p6, p7⟩ := p5 h0
    have hsl7 := h7.slice (p := (r7.1, (mPin (refB b) s id).2.1)) List.mem_cons_self
    rw [p6] at hsl7
    have h7d := (h7.drop (L' := []) (Z' := [(a6, strs now), (a6 + 1, lsns lsn), (q, .cells #[.int .i64 o.act, .int .i64 o.n, .string o.text, .int .u64 o.lsn] 33)]) (by simp) (fun z hz => by simp at hz ⊢; rcases hz with h | h | h <;> simp [h]) (Nat.le_refl _)).grow ((Keeps.refl [] w7).drew)
    simp only [sx]
    refine BtoS_of (w := w7.drew) ((hsl7.keeps ((Keeps.refl [] w7).drew) (by simp)).rdb) ?_
    refine idx7 (by omega) ?_
    rw [LdS_c, h7d.at (z := (a6, strs now)) (by simp), strs, rowO_get _ _ (by omega)]
    simp only [sx]
    rw [show seq (⟨(now (id : Int)).toArray⟩ : ByteArray) (BA (now (id : Int))) = true from seq_refl _]
    simp only [Bool.not_true, sx]
    refine Jp_of (fun st w' => ∃ (s' : CSt (refB b)) (now' : Int → List UInt8) (lsn' : Int → Int) (t' : Bool), st = (t', ()) ∧ CS (refB b) w (i + 1) c (2000 - 3 * (i + 1)) [] [(a6, strs now'), (a6 + 1, lsns lsn'), (q, .cells #[.int .i64 o.act, .int .i64 o.n, .string o.text, .int .u64 o.lsn] 33)] s' w' ∧
        RInv s' now' lsn' ∧ s'.ps.length = pl ∧ s'.b.σ.calls = s.b.σ.calls ++ new ∧ OkC now' lsn' (maxF s.b.σ.calls) new ∧ Held s' id) ?_ ?_
    · intro J2 hJ2
      rw [LdI_c, h7d.at (z := (q, _)) (List.mem_cons_of_mem _ (List.mem_cons_of_mem _ List.mem_cons_self))]
      simp only [sx, sxl]
      refine Br_of (fun hdo => ?_) (fun hdo => ?_)
      case refine_2 => exact hJ2 _ _ ⟨_, now, lsn, t, rfl, h7d, p4, hplen.trans h5.len, p1, by rw [← hlog]; exact p2, p7⟩
      rw [LdS_c, h7d.at (z := (q, _)) (List.mem_cons_of_mem _ (List.mem_cons_of_mem _ List.mem_cons_self))]
      simp only [sx, sxl]
      refine StoB_own ?_
      intro r64 w8 hs8 hk8 hb8 hl8
      have h8 := h7d.grow hk8
      rw [LdI_c, h8.at (z := (q, _)) (List.mem_cons_of_mem _ (List.mem_cons_of_mem _ List.mem_cons_self))]
      simp only [sx, sxl]
      have hbs : o.text.data.toList.length ≤ 140737488355328 := by
        have e : o.text.data.toList.length = o.text.size := by simp
        omega
      obtain ⟨q1, q2, q3, q4⟩ := put_rel p4 p7 o.text.data.toList o.lsn hbs
      have h8a := h7d.add hk8 hs8 hb8
      refine Cl.mono (h8a.put id r64 o.text.data.toList o.lsn hs8 (fun F G hX y hy => ((hX.sl (r64, _) List.mem_cons_self).2 y hy).2.1) hbs) ?_
      rintro r66 w9 ⟨hr66, h9⟩
      have h9 := h9.noL
      rw [hr66, q1]
      simp only [show ((0 : Int) != 0) = false from rfl, sx]
      rw [h9.at (z := (q, _)) (List.mem_cons_of_mem _ (List.mem_cons_of_mem _ List.mem_cons_self))]
      simp only [sx, sxl]
      refine idx7 (by omega) ?_
      refine row_st h9 (by simp; omega) (by omega) rfl ?_
      intro w10 h10
      have e6 : rowO 7 (fun j => if j = id then .string o.text else .string (BA (now (j : Int)))) 57 = strs (fun k => if k = (id : Int) then o.text.data.toList else now k) := by
        unfold strs
        refine rowO_congr _ fun k hk => ?_
        dsimp only
        by_cases hk' : k = id
        · rw [if_pos hk', if_pos (by omega)]
          exact congrArg Value.string (mk_data _).symm
        · rw [if_neg hk', if_neg (by omega)]
      rw [e6] at h10
      simp only [sx]
      have h10d := h10.grow ((Keeps.refl [] w10).drew)
      refine idx7 (by omega) ?_
      rw [LdI_c, h10d.at (z := (a6 + 1, lsns lsn)) (by simp), lsns, rowO_get _ _ (by omega)]
      simp only [sx]
      rw [h10.at (z := (q, _)) (List.mem_cons_of_mem _ (List.mem_cons_of_mem _ List.mem_cons_self))]
      simp only [sx, sxl]
      refine idx7 (by omega) ?_
      have h10s := h10d.drop (L' := []) (Z' := [(a6 + 1, lsns lsn), (a6, strs (fun k => if k = (id : Int) then o.text.data.toList else now k)), (q, .cells #[.int .i64 o.act, .int .i64 o.n, .string o.text, .int .u64 o.lsn] 33)]) (by simp) (fun z hz => by simp at hz ⊢; rcases hz with h | h | h <;> simp [h]) (Nat.le_refl _)
      refine row_st h10s (by simp; omega) (by omega) rfl ?_
      intro w11 h11
      have e7' : rowO 7 (fun j => if j = id then .int .u64 (if o.lsn > lsn (id : Int) then o.lsn else lsn (id : Int)) else .int .u64 (lsn (j : Int))) 58 = lsns (fun k => if k = (id : Int) then (if o.lsn > lsn k then o.lsn else lsn k) else lsn k) := by
        unfold lsns
        refine rowO_congr _ fun k hk => ?_
        dsimp only
        by_cases hk' : k = id
        · subst hk'
          rw [if_pos rfl, if_pos rfl]
        · rw [if_neg hk', if_neg (by omega)]
      rw [e7'] at h11
      refine hJ2 _ _ ⟨_, _, _, t, rfl, h11.drop (by simp) (fun z hz => by simp at hz ⊢; rcases hz with h | h | h <;> simp [h]) (Nat.le_refl _), q2, ?_, by rw [q3]; exact p1, ?_, q4⟩
      · rw [put_len]; exact hplen.trans h5.len
      · rw [← hlog]
        refine OkC_congr p2 fun cl hcl hk => ?_
        have := p3 cl hcl hk
        simp only [if_neg this, and_self]
    rintro _ w8 ⟨s', now', lsn', t', rfl, h8, i1, i2, i3, i4, i5⟩
    refine Jp_of (fun st w' => st = (false, ()) ∧ ∃ s'' : CSt (refB b), CS (refB b) w (i + 1) c (2000 - 3 * (i + 1)) [] [(a6, strs now'), (a6 + 1, lsns lsn'), (q, .cells #[.int .i64 o.act, .int .i64 o.n, .string o.text, .int .u64 o.lsn] 33)] s'' w' ∧ RInv s'' now' lsn' ∧ s''.ps.length = pl ∧ s''.b.σ.calls = s.b.σ.calls ++ new) ?_ ?_
    · intro J3 hJ3
      simp only [sx]
      rw [h8.at (z := (q, _)) (List.mem_cons_of_mem _ (List.mem_cons_of_mem _ List.mem_cons_self))]
      simp only [sx, sxl]
      refine Br_of (fun hdo => ?_) (fun hdo => hJ3 _ _ ⟨rfl, s', h8, i1, i2, i3⟩)
      obtain ⟨u1, u2, u3⟩ := unpin_rel i1 i5
      refine Cl.mono (h8.unpin (by omega) id) ?_
      rintro r61 w9 ⟨hr61, h9⟩
      rw [hr61, u1]
      exact hJ3 _ _ ⟨rfl, _, h9, u2, by rw [unpin_len]; exact i2, by rw [u3]; exact i3⟩
    rintro _ w9 ⟨rfl, s'', j1, j2, j3, j4⟩
    simp only [sx]
    exact hJ _ _ ⟨s'', now', lsn', t', new, rfl, ⟨j1.drop (by simp) (fun z hz => by simp at hz ⊢; rcases hz with h | h <;> simp [h]) (Nat.le_refl _), j2, j3, by omega⟩, j4, i4⟩
  · rw [decide_eq_false (by omega)]
    simp only [sx]
    have hile : i ≤ 200 := by omega
    have hfl := flush_rel s.ps.length 0 s h5.inv (by omega) (fun j p hj => by omega)
    have hpl6 := h5.len
    refine Jp_of (fun st w' => st = (false, ()) ∧ CS (refB b) w i c 0 [] [(a6, strs now), (a6 + 1, lsns lsn)] (mFlush (refB b) s.ps.length 0 s).1 w') ?_ ?_
    · intro J hJ
      refine Cl.mono (CS.flush (n := 0) (h5.cs.less (by omega))) ?_
      rintro r83 w6 ⟨hr83, h6⟩
      rw [hr83, hfl.1]
      simp only [show ((0 : Int) != 0) = false from rfl, sx]
      have hd0 : dirtyIds (mFlush (refB b) s.ps.length 0 s).1.ps = [] := by
        unfold dirtyIds
        rw [List.filterMap_eq_nil_iff]
        intro o ho
        obtain ⟨j, hj⟩ := List.mem_iff_getElem?.1 ho
        cases o with
        | none => rfl
        | some p => simp [dirty1, hfl.2.2.2 j p hj]
      refine Cl.mono (h6.dirty (by rw [hd0]; simp)) ?_
      rintro r84 w7 ⟨ds, g1, g2, g3, g4, g5, g6⟩
      rw [hd0] at g1
      have hds : ds = [] := by simpa using g1
      subst hds
      have hl84 : r84.1.len = 0 := by have := g3.len; simpa [cI] using this.symm
      rw [hl84]
      exact hJ _ _ ⟨rfl, g4⟩
    rintro _ w6 ⟨rfl, h6⟩
    simp only [sx]
    refine ⟨fun m st w' => ∃ k : Nat, st = (t, (k : Int), ()) ∧ 1 ≤ k ∧ k ≤ 7 ∧ m = 7 - k ∧ CS (refB b) w i c 0 [] [(a6, strs now), (a6 + 1, lsns lsn)] (mFlush (refB b) s.ps.length 0 s).1 w', ⟨6, 1, rfl, by omega, by omega, rfl, h6⟩, ?_⟩
    rintro _ _ w7 ⟨k, rfl, hk1, hk7, rfl, h7⟩
    dsimp only
    by_cases hk6 : k ≤ 6
    · rw [decide_eq_true (by omega)]
      obtain ⟨m, sl, hX, _⟩ := h7.bkx
      obtain ⟨tb, hbox⟩ := hX.box
      obtain ⟨kv, hm1, hm2⟩ := hX.mp
      simp only [sx, sxl, hbox, Nat.zero_add]
      have hg := hm2 (k : Int)
      have hpg : (mFlush (refB b) s.ps.length 0 s).1.b.σ.pages (k : Int) = some (now k) := by
        rcases hfl.2.1.pages k (by omega) (by omega) with ⟨j, p, g1, g2, g3, _⟩ | h'
        · rw [hfl.2.2.2 j p g1] at g3; cases g3
        · exact h'
      rw [hpg] at hg
      have hm1d : MpR w7.drew m (Value.int .i64) kv := hm1
      refine LkK_some (kd := .s) (x := BA (now k)) (keyOk_int _) hm1d hg ?_
      refine idx7 (by omega) ?_
      have h7d := h7.grow ((Keeps.refl [] w7).drew)
      rw [LdS_c, h7d.at (z := (a6, strs now)) (by simp), strs, rowO_get _ _ (by omega)]
      simp only [sx, seq_refl, Bool.not_true]
      exact ⟨7 - (k + 1), by omega, k + 1, by rw [show w64 ((k : Int) + 1) = ((k + 1 : Nat) : Int) from w64_nat (n := k + 1) (by omega)], by omega, by omega, rfl, h7d⟩
    · rw [decide_eq_false (by omega)]
      exact hR _ _ ⟨rfl, h7.kp⟩

end Go.Proofs.Ytelojafogbmbcaa
