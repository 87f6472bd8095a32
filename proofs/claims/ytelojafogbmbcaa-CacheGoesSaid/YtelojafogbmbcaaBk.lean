/- What a cache asks of its Back; the reference's Back. -/
import Derived.Test.YtelojafogbmbcaaSxW
import Derived.Test.YtelojafogbmbcaaSem
set_option linter.unusedVariables false
set_option linter.unusedSimpArgs false
namespace Go.Proofs.Ytelojafogbmbcaa
open Go Go.Sx

/-- A Back: its states, and what its methods do. -/
structure BkI (P : Program) where
  S : Type
  v : Value
  one : v.oneCell' = true
  nn : isNilI v = some false
  nc : ∀ (K : Value → Pr) (w : World), nilCheckD v K w = K v w
  At : World → (Nat → Prop) → S → Prop
  /-- So many calls more may come. -/
  rest : S → Nat → Prop
  load : S → Int → S × Int × List UInt8
  save : S → Int → List UInt8 → S × Int
  safe : S → Int
  force : S → Int → S × Int
  bl : ∀ {w F s}, At w F s → Bl F w
  keeps : ∀ {w w' F G s}, At w F s → KeepsP G w w' → Dj F G → At w' F s
  restM : ∀ {s n m}, rest s n → m ≤ n → rest s m
  load_len : ∀ s id, (load s id).2.2.length ≤ 140737488355328
  load_ok : ∀ {w F s n} (id : Int), At w F s → rest s (n + 1) → Inv P v "Load" [.int .i64 id] true [.sc .sl, .sc (.i .i64)]
    (fun r w' => ∃ F', r.2.1 = (load s id).2.1 ∧ At w' F' (load s id).1 ∧ rest (load s id).1 n ∧ SlC w' r.1 1 (cB (load s id).2.2) ∧ KeepsP F w w' ∧ Fr F F' w ∧ ∀ x ∈ blk r.1, w.heap.size ≤ x ∧ ¬ F' x) w
  save_ok : ∀ {w F s n} (id : Int) (x : Sl) (bs : List UInt8), At w F s → rest s (n + 1) → SlC w x 1 (cB bs) → bs.length ≤ 140737488355328 → (∀ y ∈ blk x, ¬ F y) → Inv P v "Save" [.int .i64 id, .slice x.p x.len x.cap] false [.sc (.i .i64)]
    (fun r w' => ∃ F', r.1 = (save s id bs).2 ∧ At w' F' (save s id bs).1 ∧ rest (save s id bs).1 n ∧ KeepsP F w w' ∧ Fr F F' w) w
  safe_ok : ∀ {w F s}, At w F s → Inv P v "Safe" [] false [.sc (.i .u64)] (fun r w' => r.1 = safe s ∧ w = w') w
  force_ok : ∀ {w F s n} (l : Int), At w F s → rest s (n + 1) → Inv P v "Force" [.int .u64 l] false [.sc (.i .i64)]
    (fun r w' => ∃ F', r.1 = (force s l).2 ∧ At w' F' (force s l).1 ∧ rest (force s l).1 n ∧ KeepsP F w w' ∧ Fr F F' w) w

/-! ### the reference's -/
structure BCall where
  kind : Int
  id : Int
  lsn : Int
  bytes : List UInt8
deriving DecidableEq
def encC (c : BCall) : List Value := [.int .i64 c.kind, .int .i64 c.id, .int .u64 c.lsn, .string (BA c.bytes)]
theorem encC_length (c : BCall) : (encC c).length = 4 := rfl
theorem encC_one (cs : List BCall) : ∀ v ∈ cs.flatMap encC, v.oneCell' = true := by
  intro v hv
  obtain ⟨c, _, hc⟩ := List.mem_flatMap.1 hv
  simp [encC] at hc
  rcases hc with rfl | rfl | rfl | rfl <;> rfl

structure BSt where
  pages : Int → Option (List UInt8)
  log : Int
  calls : List BCall
  left : Int

structure BkX (w : World) (b m : Nat) (sl : Sl) (σ : BSt) : Prop where
  box : ∃ t, w.heap[b]? = some (.cells #[.map (some m), .int .u64 σ.log, .slice sl.p sl.len sl.cap, .int .i64 σ.left] t (0, 0))
  mp : ∃ kv, MpR w m (Value.int .i64) kv ∧ ∀ k, aget k kv = (σ.pages k).map fun s => .string (BA s)
  row : SlC w sl 4 (σ.calls.flatMap encC)
  bm : b ≠ m
  bs : b ∉ blk sl
  ms : m ∉ blk sl
  left1 : -9223372036854775808 ≤ σ.left
  left2 : σ.left ≤ 9223372036854775807
  plen : ∀ k s, σ.pages k = some s → s.length ≤ 140737488355328

def BkAt (b : Nat) (w : World) (F : Nat → Prop) (σ : BSt) : Prop := ∃ m sl, BkX w b m sl σ ∧ ∀ x, F x ↔ x = b ∨ x = m ∨ x ∈ blk sl

theorem BkX.keepsP {w w' : World} {b m : Nat} {sl : Sl} {σ : BSt} {G : Nat → Prop} (h : BkX w b m sl σ) (hk : KeepsP G w w') (hb : ¬ G b) (hm : ¬ G m) (hs : ∀ x ∈ blk sl, ¬ G x) : BkX w' b m sl σ := by
  obtain ⟨t, hbox⟩ := h.box
  obtain ⟨kv, h1, h2⟩ := h.mp
  exact ⟨⟨t, hk.at hbox hb⟩, ⟨kv, h1.keepsP hk hm, h2⟩, h.row.keepsP hk hs, h.bm, h.bs, h.ms, h.left1, h.left2, h.plen⟩

theorem BkAt.bl {w : World} {b : Nat} {F : Nat → Prop} {σ : BSt} (h : BkAt b w F σ) : Bl F w := by
  obtain ⟨m, sl, h, hF⟩ := h
  obtain ⟨t, hbox⟩ := h.box
  obtain ⟨kv, h1, h2⟩ := h.mp
  intro x hx
  rcases (hF x).1 hx with rfl | rfl | hx
  · exact hp_lt hbox
  · exact h1.lt
  · exact h.row.lt x hx

theorem BkAt.keeps {w w' : World} {b : Nat} {F G : Nat → Prop} {σ : BSt} (h : BkAt b w F σ) (hk : KeepsP G w w') (hd : Dj F G) : BkAt b w' F σ := by
  obtain ⟨m, sl, h, hF⟩ := h
  exact ⟨m, sl, h.keepsP hk (hd b ((hF b).2 (.inl rfl))) (hd m ((hF m).2 (.inr (.inl rfl)))) (fun x hx => hd x ((hF x).2 (.inr (.inr hx)))), hF⟩

def BSt.next (σ : BSt) (c : BCall) : BSt := { σ with calls := σ.calls ++ [c], left := if σ.left > 0 then σ.left - 1 else σ.left }

theorem fails_ok {w : World} {b : Nat} {F : Nat → Prop} {σ : BSt} (h : BkAt b w F σ) (c : BCall) (hn : σ.calls.length < 1099511627776) :
    Cl Try.prog i_sumpterref10_Back_fails [.pointer (some ⟨b, 0, none⟩), .agg (encC c).toArray] false [.sc .b]
      (fun r w' => ∃ F', r.1 = (σ.left == 0) ∧ BkAt b w' F' (σ.next c) ∧ KeepsP F w w' ∧ Fr F F' w) w := by
  apply sumpterref10_Back_fails_call
  unfold sumpterref10_Back_fails
  obtain ⟨m, sl, h, hF⟩ := h
  obtain ⟨t, hbox⟩ := h.box
  obtain ⟨kv, hm1, hm2⟩ := h.mp
  have hbl := hp_lt hbox
  have hml := hm1.lt
  simp (disch := ((try simp only [sx]); first | done | omega)) only [sxr, sxc, sxl, hbox, Nat.zero_add, Nat.reduceAdd, true_and]
  have hlen := h.row.slen encC_length (by omega)
  generalize hw1 : (World.alloc (World.drew (World.alloc w (Obj.cells #[Value.int IntKind.i64 c.kind, Value.int IntKind.i64 c.id, Value.int IntKind.u64 c.lsn, Value.string (BA c.bytes)] 60)))
    (Obj.cells #[Value.int IntKind.i64 c.kind, Value.int IntKind.i64 c.id, Value.int IntKind.u64 c.lsn, Value.string (BA c.bytes)] 60)) = w1
  have hk1 : Keeps [] w w1 := by rw [← hw1]; exact (((Keeps.refl [] w).alloc _).drew).alloc _
  have hz1 : w.heap.size ≤ w1.heap.size := hk1.size
  have hsrc : RdC (some ⟨w.heap.size + 1, 0, none⟩) (1 * 4) (encC c) w1 := by
    have := rdc_row (w := w1) (b := w.heap.size + 1) (cs := encC c) (t := 60) (fr := (0, 0)) (by
      rw [← hw1]
      exact hp_alloc_eq _ _ (by rw [hp_drew, World.size_alloc]))
    exact this
  refine App_of (h.row.keeps hk1 (by simp)) hsrc rfl (by simp [encC, Value.oneCell']) (by kernel_rfl) (by omega) (by omega) ?_
  intro r w2 hr hrl hk2 hrb
  have hbox2 := hk2.at (hk1.at hbox (by simp)) h.bs
  refine set_box hbox2 2 _ rfl (by simp) ?_
  intro w3 hbox3 hk3
  simp only [List.setIfInBounds_toArray, List.set_cons_succ, List.set_cons_zero] at hbox3
  have hb0 : b < w1.heap.size := hk1.lt hbl
  have hbr : b ∉ blk r := fun hx => by
    rcases hrb b hx with h' | h'
    · exact h.bs h'
    · omega
  have hmr : m ∉ blk r := fun hx => by
    rcases hrb m hx with h' | h'
    · exact h.ms h'
    · have := hk1.lt hml; omega
  have f3 : KeepsP F w w3 := (((hk1.toP (F := F) (by simp)).step hk2 fun x hx => .inl ((hF x).2 (.inr (.inr hx))))).step hk3 fun x hx => .inl ((hF x).2 (.inl (by simpa using hx)))
  have hr3 : SlC w3 r 4 ((σ.next c).calls.flatMap encC) := by
    have e : (σ.next c).calls.flatMap encC = σ.calls.flatMap encC ++ encC c := by simp [BSt.next]
    rw [e]
    exact hr.keeps hk3 fun x hx => by simp; intro hxb; subst hxb; exact hbr hx
  have hm3 : MpR w3 m (Value.int .i64) kv := ((hm1.keepsL hk1 (by simp)).keepsL hk2 h.ms).keepsL hk3 (by simp; exact fun e => h.bm e.symm)
  have hfr : ∀ F' : Nat → Prop, (∀ x, F' x ↔ x = b ∨ x = m ∨ x ∈ blk r) → Fr F F' w := fun F' hF' x hx => by
    rcases (hF' x).1 hx with h' | h' | h'
    · exact .inl ((hF x).2 (.inl h'))
    · exact .inl ((hF x).2 (.inr (.inl h')))
    · rcases hrb x h' with h'' | h''
      · exact .inl ((hF x).2 (.inr (.inr h'')))
      · exact .inr (by omega)
  simp (disch := ((try simp only [sx]); first | done | omega)) only [sxr, sxc, sxl, hbox3, Nat.zero_add, Nat.reduceAdd, true_and]
  by_cases h0 : σ.left = 0
  · rw [show (σ.left == 0) = true from by simp [h0]]
    refine ⟨_, (by trivial), ⟨m, r, ⟨⟨t, ?_⟩, ⟨kv, hm3, hm2⟩, hr3, h.bm, hbr, hmr, ?_, ?_, h.plen⟩, fun x => Iff.rfl⟩, f3, hfr _ fun x => Iff.rfl⟩
    · rw [hbox3]; simp [BSt.next, h0]
    · simp [BSt.next, h0]
    · simp [BSt.next, h0]
  · rw [show (σ.left == 0) = false from by simp [h0]]
    simp only [sx, Jp, sxl, hbox3]
    refine Br_of (fun hc => ?_) (fun hc => ?_)
    · simp only [decide_eq_true_eq] at hc
      simp only [hbox3, sxl, sxr]
      rw [w64_in (by have := h.left1; omega) (by have := h.left2; omega)]
      refine set_box hbox3 3 _ rfl (by simp) ?_
      intro w4 hbox4 hk4
      simp only [List.setIfInBounds_toArray, List.set_cons_succ, List.set_cons_zero] at hbox4
      refine ⟨_, (by trivial), ⟨m, r, ⟨⟨t, ?_⟩, ⟨kv, hm3.keepsP (hk4.toP (F := fun x => x = b) (by simp)) (fun e => h.bm e.symm), hm2⟩, hr3.keeps hk4 (fun x hx => by simp; intro e; subst e; exact hbr hx), h.bm, hbr, hmr, ?_, ?_, h.plen⟩, fun x => Iff.rfl⟩, f3.step hk4 (fun x hx => .inl ((hF x).2 (.inl (by simpa using hx)))), hfr _ fun x => Iff.rfl⟩
      · rw [hbox4]; simp [BSt.next, hc]
      · simp only [BSt.next, if_pos hc]; omega
      · simp only [BSt.next, if_pos hc]; have := h.left2; omega
    · simp only [decide_eq_false_iff_not] at hc
      refine ⟨_, (by trivial), ⟨m, r, ⟨⟨t, ?_⟩, ⟨kv, hm3, hm2⟩, hr3, h.bm, hbr, hmr, ?_, ?_, h.plen⟩, fun x => Iff.rfl⟩, f3, hfr _ fun x => Iff.rfl⟩
      · rw [hbox3]; simp [BSt.next, hc]
      · simp only [BSt.next, if_neg hc]; exact h.left1
      · simp only [BSt.next, if_neg hc]; exact h.left2

/-- Load: what comes, and what is said. -/
def BSt.load (σ : BSt) (id : Int) : BSt × Int × List UInt8 :=
  if σ.left = 0 then (σ.next ⟨1, id, 0, []⟩, 60, []) else
  match σ.pages id with
  | none => (σ.next ⟨1, id, 0, []⟩, 90, [])
  | some s => (σ.next ⟨1, id, 0, []⟩, 0, s)
def BSt.save (σ : BSt) (id : Int) (bs : List UInt8) : BSt × Int :=
  if σ.left = 0 then (σ.next ⟨2, id, 0, bs⟩, 60) else
  ({ σ.next ⟨2, id, 0, bs⟩ with pages := fun k => if k = id then some bs else σ.pages k }, 0)
def BSt.force (σ : BSt) (l : Int) : BSt × Int :=
  if σ.left = 0 then (σ.next ⟨3, 0, l, []⟩, 60) else
  ({ σ.next ⟨3, 0, l, []⟩ with log := if l > σ.log then l else σ.log }, 0)
def BSt.rest (σ : BSt) (n : Nat) : Prop := σ.calls.length + n ≤ 1099511627776

theorem Load_ok {w : World} {b : Nat} {F : Nat → Prop} {σ : BSt} {n : Nat} (id : Int) (h : BkAt b w F σ) (hn : σ.rest (n + 1)) :
    Cl Try.prog i_sumpterref10_Back_Load [.pointer (some ⟨b, 0, none⟩), .int .i64 id] true [.sc .sl, .sc (.i .i64)]
      (fun r w' => ∃ F', r.2.1 = (σ.load id).2.1 ∧ BkAt b w' F' (σ.load id).1 ∧ (σ.load id).1.rest n ∧ SlC w' r.1 1 (cB (σ.load id).2.2) ∧ KeepsP F w w' ∧ Fr F F' w ∧ ∀ x ∈ blk r.1, w.heap.size ≤ x ∧ ¬ F' x) w := by
  apply sumpterref10_Back_Load_call
  unfold sumpterref10_Back_Load
  unfold BSt.rest at hn
  have hrest : (σ.next ⟨1, id, 0, []⟩).rest n := by simp [BSt.rest, BSt.next]; omega
  refine Cl.mono (fails_ok h ⟨1, id, 0, []⟩ (by omega)) ?_
  rintro r w1 ⟨F1, hr, h1, hk1, hf1⟩
  rw [hr]
  by_cases h0 : σ.left = 0
  · rw [show (σ.left == 0) = true from by simp [h0]]
    simp only [sx, BSt.load, if_pos h0]
    exact ⟨F1, (by trivial), h1, hrest, SlC.nil _ _, hk1, hf1, by simp [blk]⟩
  · rw [show (σ.left == 0) = false from by simp [h0]]
    obtain ⟨m, sl, hx, hF1⟩ := h1
    have h1 : BkAt b w1 F1 (σ.next ⟨1, id, 0, []⟩) := ⟨m, sl, hx, hF1⟩
    obtain ⟨t, hbox⟩ := hx.box
    obtain ⟨kv, hm1, hm2⟩ := hx.mp
    simp only [sx, sxl, hbox, Nat.zero_add]
    have hg := hm2 id
    have hp : (σ.next ⟨1, id, 0, []⟩).pages id = σ.pages id := rfl
    rw [hp] at hg
    cases hq : σ.pages id with
    | none =>
      rw [hq] at hg
      refine LkK_none (keyOk_int _) hm1 hg ?_
      simp only [Bool.not_false, sx, BSt.load, if_neg h0, hq]
      exact ⟨F1, (by trivial), h1, hrest, SlC.nil _ _, hk1, hf1, by simp [blk]⟩
    | some s =>
      rw [hq] at hg
      refine LkK_some (kd := .s) (x := BA s) (keyOk_int _) hm1 hg ?_
      simp only [Bool.not_true, sx, BSt.load, if_neg h0, hq]
      refine StoB_own ?_
      intro r2 w2 hs2 hk2 hb2 hl2
      have hbl1 := h1.bl
      refine ⟨F1, (by trivial), h1.keeps (hk2.toP (F := fun _ => False) (by simp)) (fun _ _ h => h), hrest, hs2, hk1.step hk2 (by simp), hf1, fun x hx => ⟨?_, fun hF => ?_⟩⟩
      · have := hb2 x hx; have := hk1.size; omega
      · have := hb2 x hx; have := hbl1 x hF; omega

theorem Safe_ok {w : World} {b : Nat} {F : Nat → Prop} {σ : BSt} (h : BkAt b w F σ) :
    Cl Try.prog i_sumpterref10_Back_Safe [.pointer (some ⟨b, 0, none⟩)] false [.sc (.i .u64)] (fun r w' => r.1 = σ.log ∧ w = w') w := by
  apply sumpterref10_Back_Safe_call
  unfold sumpterref10_Back_Safe
  obtain ⟨m, sl, hx, hF1⟩ := h
  obtain ⟨t, hbox⟩ := hx.box
  simp only [sx, sxl, hbox, Nat.zero_add, Nat.reduceAdd]
  exact ⟨trivial, trivial⟩

theorem Force_ok {w : World} {b : Nat} {F : Nat → Prop} {σ : BSt} {n : Nat} (l : Int) (h : BkAt b w F σ) (hn : σ.rest (n + 1)) :
    Cl Try.prog i_sumpterref10_Back_Force [.pointer (some ⟨b, 0, none⟩), .int .u64 l] false [.sc (.i .i64)]
      (fun r w' => ∃ F', r.1 = (σ.force l).2 ∧ BkAt b w' F' (σ.force l).1 ∧ (σ.force l).1.rest n ∧ KeepsP F w w' ∧ Fr F F' w) w := by
  apply sumpterref10_Back_Force_call
  unfold sumpterref10_Back_Force
  unfold BSt.rest at hn
  refine Cl.mono (fails_ok h ⟨3, 0, l, []⟩ (by omega)) ?_
  rintro r w1 ⟨F1, hr, h1, hk1, hf1⟩
  rw [hr]
  by_cases h0 : σ.left = 0
  · rw [show (σ.left == 0) = true from by simp [h0]]
    simp only [sx, BSt.force, if_pos h0]
    exact ⟨F1, (by trivial), h1, by simp [BSt.rest, BSt.next]; omega, hk1, hf1⟩
  · rw [show (σ.left == 0) = false from by simp [h0]]
    obtain ⟨m, sl, hx, hF1⟩ := h1
    obtain ⟨t, hbox⟩ := hx.box
    obtain ⟨kv, hm1, hm2⟩ := hx.mp
    simp only [sxr, sxl, hbox, Nat.zero_add, Nat.reduceAdd]
    refine set_box hbox 1 _ rfl (by simp) ?_
    intro w2 hbox2 hk2
    simp only [List.setIfInBounds_toArray, List.set_cons_succ, List.set_cons_zero] at hbox2
    simp only [BSt.force, if_neg h0]
    refine ⟨F1, (by trivial), ⟨m, sl, ⟨⟨t, hbox2⟩, ⟨kv, hm1.keepsP (hk2.toP (F := fun x => x = b) (by simp)) (fun e => hx.bm e.symm), hm2⟩, hx.row.keeps hk2 (fun x hx' => by simp; intro e; subst e; exact hx.bs hx'), hx.bm, hx.bs, hx.ms, hx.left1, hx.left2, hx.plen⟩, hF1⟩, by simp [BSt.rest, BSt.next]; omega, hk1.step hk2 (fun x hx' => by simp at hx'; subst hx'; exact hf1 x ((hF1 x).2 (.inl rfl))), hf1⟩

theorem Save_ok {w : World} {b : Nat} {F : Nat → Prop} {σ : BSt} {n : Nat} (id : Int) (x : Sl) (bs : List UInt8) (h : BkAt b w F σ) (hn : σ.rest (n + 1)) (hx : SlC w x 1 (cB bs)) (hbs : bs.length ≤ 140737488355328) (hd : ∀ y ∈ blk x, ¬ F y) :
    Cl Try.prog i_sumpterref10_Back_Save [.pointer (some ⟨b, 0, none⟩), .int .i64 id, .slice x.p x.len x.cap] false [.sc (.i .i64)]
      (fun r w' => ∃ F', r.1 = (σ.save id bs).2 ∧ BkAt b w' F' (σ.save id bs).1 ∧ (σ.save id bs).1.rest n ∧ KeepsP F w w' ∧ Fr F F' w) w := by
  apply sumpterref10_Back_Save_call
  unfold sumpterref10_Back_Save
  unfold BSt.rest at hn
  refine BtoS_of hx.rdb ?_
  refine Cl.mono (fails_ok h ⟨2, id, 0, bs⟩ (by omega)) ?_
  rintro r w1 ⟨F1, hr, h1, hk1, hf1⟩
  rw [hr]
  by_cases h0 : σ.left = 0
  · rw [show (σ.left == 0) = true from by simp [h0]]
    simp only [sx, BSt.save, if_pos h0]
    exact ⟨F1, (by trivial), h1, by simp [BSt.rest, BSt.next]; omega, hk1, hf1⟩
  · rw [show (σ.left == 0) = false from by simp [h0]]
    obtain ⟨m, sl, hX, hF1⟩ := h1
    obtain ⟨t, hbox⟩ := hX.box
    obtain ⟨kv, hm1, hm2⟩ := hX.mp
    simp only [sxr, sxl, hbox, Nat.zero_add, Nat.reduceAdd]
    refine BtoS_of (SlC.rdb (hx.keepsP (hk1.step ((Keeps.refl [] w1).drew) (by simp)) hd)) ?_
    refine MSet_of (w := w1.drew) (keyOk_int _) hm1 id _ ?_
    intro w2 hm3 hk2'
    have hk2 : Keeps [m] w1 w2 := ((Keeps.refl [m] w1).drew).trans hk2' (by simp)
    simp only [BSt.save, if_neg h0]
    refine ⟨F1, (by trivial), ⟨m, sl, ⟨⟨t, hk2.at hbox (by simp; exact hX.bm)⟩, ⟨_, hm3, fun k => ?_⟩, hX.row.keeps hk2 (fun y hy => by simp; intro e; subst e; exact hX.ms hy), hX.bm, hX.bs, hX.ms, hX.left1, hX.left2, fun k s hs => ?_⟩, hF1⟩, by simp [BSt.rest, BSt.next]; omega, hk1.step hk2 (fun y hy => by simp at hy; subst hy; exact hf1 y ((hF1 y).2 (.inr (.inl rfl)))), hf1⟩
    · rw [aget_aset]
      by_cases hk : k = id
      · simp [hk, BA]
      · simp only [if_neg hk]; exact hm2 k
    · simp only at hs
      split at hs
      · cases hs; exact hbs
      · exact hX.plen k s hs

end Go.Proofs.Ytelojafogbmbcaa
