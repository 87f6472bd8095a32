/- Keys and their parts, plainly: how parts are joined, how a key is parted, and how lists are ordered. Conditions: none. -/
import Derived.Test.YthgiocimimdbcaaDoorLay
set_option linter.unusedVariables false
set_option linter.unusedSimpArgs false
namespace Go.Proofs.YthgiocimimdbcaaDoor
open Go Go.Sx

abbrev Bs := List UInt8

/-! ### replacing -/
theorem ra_def {s old new : Bs} (hn : old ≠ new) : Lib.replaceAll s old new = Lib.replaceK old new (Lib.count s old) s := by
  have : (old == new) = false := by simpa using hn
  simp [Lib.replaceAll, Lib.replace, this, Lib.replaceNum]

theorem ra_nil {old new : Bs} (h : old ≠ []) (hn : old ≠ new) : Lib.replaceAll [] old new = [] := by
  have hi : Lib.index [] old = -1 := by simp [Lib.index, h]
  rw [ra_def hn, Lib.count_miss hi]
  rfl

theorem ra_hit {s old new : Bs} (h : old ≠ []) (hn : old ≠ new) (hi : Lib.index s old = 0) : Lib.replaceAll s old new = new ++ Lib.replaceAll (s.drop old.length) old new := by
  have hi' : Lib.index s old = ((0 : Nat) : Int) := hi
  have hc := Lib.count_hit h hi'
  rw [ra_def hn, ra_def hn, hc, Nat.add_comm, Lib.replaceK_hit _ _ _ _ _ hi']
  simp

theorem ra_miss {b : UInt8} {l old new : Bs} (h : old ≠ []) (hn : old ≠ new) (hp : old.isPrefixOf (b :: l) = false) : Lib.replaceAll (b :: l) old new = b :: Lib.replaceAll l old new := by
  have he : Lib.index (b :: l) old = if Lib.index l old == -1 then -1 else Lib.index l old + 1 := by simp [Lib.index, hp]
  rcases Lib.index_spec l old with ⟨h1, _⟩ | ⟨i, h1, _, _, _⟩
  · rw [h1] at he
    simp at he
    rw [ra_def hn, ra_def hn, Lib.count_miss he, Lib.count_miss h1]
    rfl
  · have he' : Lib.index (b :: l) old = ((i + 1 : Nat) : Int) := by
      rw [he, h1, if_neg (by first | (simp; done) | (simp; omega))]
      omega
    have c1 := Lib.count_hit h he'
    have c2 := Lib.count_hit h h1
    rw [show i + 1 + old.length = (i + old.length) + 1 by omega, List.drop_succ_cons] at c1
    have hc : Lib.count (b :: l) old = Lib.count l old := by rw [c1, c2]
    rw [ra_def hn, ra_def hn, hc, c2, Nat.add_comm, Lib.replaceK_hit _ _ _ _ _ he', Lib.replaceK_hit _ _ _ _ _ h1]
    rw [show i + 1 + old.length = (i + old.length) + 1 by omega, List.drop_succ_cons]
    simp

/-! ### joining -/
def esc : Bs → Bs
  | [] => []
  | b :: r => if b = 0 then 0 :: 255 :: esc r else b :: esc r

theorem esc_ra (p : Bs) : Lib.replaceAll p [0] [0, 255] = esc p := by
  induction p with
  | nil => exact ra_nil (by simp) (by simp)
  | cons b r ih =>
    by_cases hb : b = 0
    · subst hb
      rw [ra_hit (by simp) (by simp) (by simp [Lib.index])]
      simp [esc, ih]
    · rw [ra_miss (by simp) (by simp) (by simp [List.isPrefixOf]; exact fun h => hb h.symm), ih, esc, if_neg hb]

theorem esc_len (p : Bs) : (esc p).length = p.length + p.count 0 := by
  induction p with
  | nil => rfl
  | cons b r ih =>
    by_cases hb : b = 0
    · subst hb; simp [esc, ih]; omega
    · simp [esc, hb, ih]; omega

def ec (p : Bs) : Bs := esc p ++ [0, 1]
def ecs (l : List Bs) : Bs := l.flatMap ec

theorem ec_len (p : Bs) : (ec p).length = p.length + p.count 0 + 2 := by simp [ec, esc_len]
theorem ecs_nil : ecs [] = [] := rfl
theorem ecs_cons (p : Bs) (l : List Bs) : ecs (p :: l) = ec p ++ ecs l := by simp [ecs]
theorem ecs_app (a b : List Bs) : ecs (a ++ b) = ecs a ++ ecs b := by simp [ecs]
theorem ecs_len_ge (l : List Bs) : 2 * l.length ≤ (ecs l).length := by
  induction l with
  | nil => simp [ecs]
  | cons p l ih => rw [ecs_cons, List.length_append, ec_len, List.length_cons]; omega

/-- The key of some parts, and how it went. -/
def jn (l : List Bs) : Bs × Int := if l.length < 1 ∨ 4 < l.length then ([], 3) else if 12 < (ecs l).length then ([], 2) else (ecs l, 0)

/-! ### parting -/
def tok : Bs → Option (Bs × Bs)
  | [] => none
  | b :: r => if b = 0 then
      match r with
      | [] => none
      | c :: q => if c = 1 then some ([], q) else if c = 255 then (tok q).map fun x => (0 :: x.1, x.2) else none
    else (tok r).map fun x => (b :: x.1, x.2)

theorem tok_ec (p r : Bs) : tok (ec p ++ r) = some (p, r) := by
  induction p with
  | nil => simp [ec, esc, tok]
  | cons b q ih =>
    by_cases hb : b = 0
    · subst hb
      have : ec (0 :: q) ++ r = 0 :: 255 :: (ec q ++ r) := by simp [ec, esc]
      rw [this, tok.eq_def]
      simp [ih]
    · have : ec (b :: q) ++ r = b :: (ec q ++ r) := by simp [ec, esc, hb]
      rw [this, tok.eq_def]
      simp [hb, ih]

theorem tok_eq : ∀ (n : Nat) {k p r : Bs}, k.length ≤ n → tok k = some (p, r) → k = ec p ++ r := by
  intro n
  induction n with
  | zero =>
    intro k p r hn h
    cases k with
    | nil => simp [tok] at h
    | cons _ _ => simp at hn
  | succ n ih =>
    intro k p r hn h
    cases k with
    | nil => simp [tok] at h
    | cons b s =>
      rw [tok.eq_def] at h
      simp only at h
      split at h
      · rename_i hb
        subst hb
        cases s with
        | nil => simp at h
        | cons c q =>
          simp only at h
          split at h
          · rename_i hc
            subst hc
            simp at h
            obtain ⟨rfl, rfl⟩ := h
            simp [ec, esc]
          · split at h
            · rename_i hc
              subst hc
              simp only [Option.map_eq_some_iff] at h
              obtain ⟨⟨p', r'⟩, h1, h2⟩ := h
              simp at h2
              obtain ⟨rfl, rfl⟩ := h2
              have := ih (by simp at hn; omega) h1
              rw [this]
              simp [ec, esc]
            · simp at h
      · rename_i hb
        simp only [Option.map_eq_some_iff] at h
        obtain ⟨⟨p', r'⟩, h1, h2⟩ := h
        simp at h2
        obtain ⟨rfl, rfl⟩ := h2
        have := ih (by simp at hn; omega) h1
        rw [this]
        simp [ec, esc, hb]

/-- The parts of a key. -/
def dec : Nat → Bs → Option (List Bs)
  | 0, k => if k = [] then some [] else none
  | n + 1, k => if k = [] then some [] else match tok k with
    | none => none
    | some (p, r) => (dec n r).map (p :: ·)

theorem dec_eq : ∀ {n : Nat} {k : Bs} {l : List Bs}, dec n k = some l → k = ecs l := by
  intro n
  induction n with
  | zero => intro k l h; simp [dec] at h; obtain ⟨rfl, rfl⟩ := h; rfl
  | succ n ih =>
    intro k l h
    rw [dec] at h
    split at h
    · rename_i hk; simp at h; subst h; exact hk
    · split at h
      · cases h
      · rename_i p r hp
        simp only [Option.map_eq_some_iff] at h
        obtain ⟨l', h1, rfl⟩ := h
        rw [ecs_cons, ← ih h1]
        exact tok_eq _ (Nat.le_refl _) hp

theorem ec_ne (p : Bs) (r : Bs) : ec p ++ r ≠ [] := by simp [ec]

theorem dec_ecs : ∀ {n : Nat} {l : List Bs}, (ecs l).length ≤ n → dec n (ecs l) = some l := by
  intro n
  induction n with
  | zero =>
    intro l h
    cases l with
    | nil => rfl
    | cons p l => rw [ecs_cons, List.length_append, ec_len] at h; omega
  | succ n ih =>
    intro l h
    cases l with
    | nil => rfl
    | cons p l =>
      rw [ecs_cons, dec, if_neg (ec_ne p _), tok_ec]
      simp only
      rw [ih (by rw [ecs_cons, List.length_append, ec_len] at h; omega)]
      rfl

/-- What a key's parts are, and how it went. -/
def pt (k : Bs) : List Bs × Int :=
  if k.length < 1 ∨ 12 < k.length then ([], 20)
  else match dec 12 k with
    | none => ([], 11)
    | some l => if l.length ≤ 4 then (l, 0) else ([], 11)

theorem pt_jn {l : List Bs} (h : (jn l).2 = 0) : pt (jn l).1 = (l, 0) := by
  unfold jn at h ⊢
  split at h
  · simp at h
  · rename_i h1
    split at h
    · simp at h
    · rename_i h2
      rw [if_neg h1, if_neg h2]
      have := ecs_len_ge l
      unfold pt
      rw [if_neg (by simp only; omega)]
      simp only
      rw [dec_ecs (by omega)]
      simp only
      rw [if_pos (by omega)]

/-! ### order -/
def cmpL : List Bs → List Bs → Int
  | [], [] => 0
  | [], _ :: _ => -1
  | _ :: _, [] => 1
  | a :: x, b :: y => if Lib.compareBytes a b ≠ 0 then Lib.compareBytes a b else cmpL x y

theorem cb_self (a : Bs) : Lib.compareBytes a a = 0 := by
  induction a with
  | nil => rfl
  | cons x a ih => simp [Lib.compareBytes, ih]
theorem cb_zero : ∀ {a b : Bs}, Lib.compareBytes a b = 0 ↔ a = b
  | [], [] => by simp [Lib.compareBytes]
  | [], _ :: _ => by simp [Lib.compareBytes]
  | _ :: _, [] => by simp [Lib.compareBytes]
  | x :: a, y :: b => by
    simp only [Lib.compareBytes]
    split
    · rename_i h; simp; rintro rfl; exact absurd h (by simp)
    · split
      · rename_i h; simp; rintro rfl; exact absurd h (by simp)
      · rename_i h1 h2
        have : x = y := UInt8.le_antisymm (UInt8.not_lt.1 h2) (UInt8.not_lt.1 h1)
        subst this
        simp [cb_zero]
theorem cb_neg : ∀ (a b : Bs), Lib.compareBytes b a = - Lib.compareBytes a b
  | [], [] => rfl
  | [], _ :: _ => rfl
  | _ :: _, [] => rfl
  | x :: a, y :: b => by
    simp only [Lib.compareBytes]
    by_cases h1 : x < y
    · rw [if_neg (UInt8.lt_asymm h1), if_pos h1, if_pos h1]; rfl
    · by_cases h2 : y < x
      · simp [h1, h2]
      · simp [h1, h2, cb_neg a b]
theorem cb_range (a b : Bs) : Lib.compareBytes a b = -1 ∨ Lib.compareBytes a b = 0 ∨ Lib.compareBytes a b = 1 := by
  induction a generalizing b with
  | nil => cases b <;> simp [Lib.compareBytes]
  | cons x a ih =>
    cases b with
    | nil => simp [Lib.compareBytes]
    | cons y b =>
      simp only [Lib.compareBytes]
      split
      · exact .inl rfl
      · split
        · exact .inr (.inr rfl)
        · exact ih b
theorem cb_trans : ∀ {a b c : Bs}, Lib.compareBytes a b = -1 → Lib.compareBytes b c = -1 → Lib.compareBytes a c = -1
  | [], [], _, h, _ => by simp [Lib.compareBytes] at h
  | [], _ :: _, [], _, h => by simp [Lib.compareBytes] at h
  | [], _ :: _, _ :: _, _, _ => rfl
  | _ :: _, [], _, h, _ => by simp [Lib.compareBytes] at h
  | _ :: _, _ :: _, [], _, h => by simp [Lib.compareBytes] at h
  | x :: a, y :: b, z :: c, h1, h2 => by
    simp only [Lib.compareBytes] at *
    split at h1
    · rename_i hxy
      split at h2
      · rename_i hyz; rw [if_pos (UInt8.lt_trans hxy hyz)]
      · split at h2
        · simp at h2
        · rename_i hyz hzy
          have : y = z := UInt8.le_antisymm (UInt8.not_lt.1 hzy) (UInt8.not_lt.1 hyz)
          subst this
          rw [if_pos hxy]
    · split at h1
      · simp at h1
      · rename_i hxy hyx
        have : x = y := UInt8.le_antisymm (UInt8.not_lt.1 hyx) (UInt8.not_lt.1 hxy)
        subst this
        split at h2
        · rename_i hyz; rw [if_pos hyz]
        · split at h2
          · simp at h2
          · rename_i hyz hzy
            rw [if_neg hyz, if_neg hzy]
            exact cb_trans h1 h2

theorem cmpL_self (l : List Bs) : cmpL l l = 0 := by
  induction l with
  | nil => rfl
  | cons p l ih => simp [cmpL, cb_self, ih]
theorem cmpL_zero : ∀ {a b : List Bs}, cmpL a b = 0 ↔ a = b
  | [], [] => by simp [cmpL]
  | [], _ :: _ => by simp [cmpL]
  | _ :: _, [] => by simp [cmpL]
  | x :: a, y :: b => by
    simp only [cmpL]
    by_cases h : Lib.compareBytes x y = 0
    · have := cb_zero.1 h
      subst this
      simp [cb_self, cmpL_zero]
    · rw [if_pos h]
      have : x ≠ y := fun e => h (cb_zero.2 e)
      simp [h, this]
theorem cmpL_neg : ∀ (a b : List Bs), cmpL b a = - cmpL a b
  | [], [] => rfl
  | [], _ :: _ => rfl
  | _ :: _, [] => rfl
  | x :: a, y :: b => by
    simp only [cmpL, cb_neg x y]
    by_cases h : Lib.compareBytes x y = 0
    · simp [h, cmpL_neg a b]
    · rw [if_pos (by omega), if_pos h]
theorem cmpL_range (a b : List Bs) : cmpL a b = -1 ∨ cmpL a b = 0 ∨ cmpL a b = 1 := by
  induction a generalizing b with
  | nil => cases b <;> simp [cmpL]
  | cons x a ih =>
    cases b with
    | nil => simp [cmpL]
    | cons y b =>
      simp only [cmpL]
      split
      · exact cb_range x y
      · exact ih b
theorem cmpL_trans : ∀ {a b c : List Bs}, cmpL a b = -1 → cmpL b c = -1 → cmpL a c = -1
  | [], [], _, h, _ => by simp [cmpL] at h
  | [], _ :: _, [], _, h => by simp [cmpL] at h
  | [], _ :: _, _ :: _, _, _ => rfl
  | _ :: _, [], _, h, _ => by simp [cmpL] at h
  | _ :: _, _ :: _, [], _, h => by simp [cmpL] at h
  | x :: a, y :: b, z :: c, h1, h2 => by
    simp only [cmpL] at *
    by_cases hxy : Lib.compareBytes x y = 0
    · have := cb_zero.1 hxy
      subst this
      rw [if_neg (by simp [cb_self])] at h1
      by_cases hyz : Lib.compareBytes x z = 0
      · rw [if_neg (by simp [hyz])] at h2 ⊢
        exact cmpL_trans h1 h2
      · rw [if_pos hyz] at h2 ⊢
        exact h2
    · rw [if_pos hxy] at h1
      by_cases hyz : Lib.compareBytes y z = 0
      · have := cb_zero.1 hyz
        subst this
        rw [if_pos hxy]
        exact h1
      · rw [if_pos hyz] at h2
        have := cb_trans h1 h2
        rw [if_pos (by rw [this]; decide)]
        exact this

/-- Keys are ordered as their parts are. -/
theorem cb_ec : ∀ (p q x y : Bs), Lib.compareBytes (ec p ++ x) (ec q ++ y) = if Lib.compareBytes p q ≠ 0 then Lib.compareBytes p q else Lib.compareBytes x y
  | [], [], x, y => by simp [ec, esc, Lib.compareBytes]
  | [], c :: q, x, y => by
    by_cases hc : c = 0
    · subst hc; simp [ec, esc, Lib.compareBytes]
    · have h0 : (0 : UInt8) < c := UInt8.pos_iff_ne_zero.2 hc
      simp [ec, esc, hc, Lib.compareBytes, h0]
  | c :: p, [], x, y => by
    by_cases hc : c = 0
    · subst hc; simp [ec, esc, Lib.compareBytes]
    · have h0 : (0 : UInt8) < c := UInt8.pos_iff_ne_zero.2 hc
      simp [ec, esc, hc, Lib.compareBytes, h0]
  | a :: p, b :: q, x, y => by
    have ih := cb_ec p q x y
    by_cases ha : a = 0
    · subst ha
      by_cases hb : b = 0
      · subst hb
        have e1 : ec (0 :: p) ++ x = 0 :: 255 :: (ec p ++ x) := by simp [ec, esc]
        have e2 : ec (0 :: q) ++ y = 0 :: 255 :: (ec q ++ y) := by simp [ec, esc]
        rw [e1, e2]
        simp [Lib.compareBytes, ih]
      · have h0 : (0 : UInt8) < b := UInt8.pos_iff_ne_zero.2 hb
        simp [ec, esc, hb, Lib.compareBytes, h0]
    · by_cases hb : b = 0
      · subst hb
        have h0 : (0 : UInt8) < a := UInt8.pos_iff_ne_zero.2 ha
        simp [ec, esc, ha, Lib.compareBytes, h0]
      · have e1 : ec (a :: p) ++ x = a :: (ec p ++ x) := by simp [ec, esc, ha]
        have e2 : ec (b :: q) ++ y = b :: (ec q ++ y) := by simp [ec, esc, hb]
        rw [e1, e2]
        simp only [Lib.compareBytes, ih]
        split
        · simp
        · split
          · simp
          · rfl

theorem cb_ecs : ∀ (a b : List Bs), Lib.compareBytes (ecs a) (ecs b) = cmpL a b
  | [], [] => rfl
  | [], p :: b => by rw [ecs_nil, ecs_cons]; cases h : ec p ++ ecs b with
    | nil => exact absurd h (ec_ne _ _)
    | cons _ _ => rfl
  | p :: a, [] => by rw [ecs_nil, ecs_cons]; cases h : ec p ++ ecs a with
    | nil => exact absurd h (ec_ne _ _)
    | cons _ _ => rfl
  | p :: a, q :: b => by
    rw [ecs_cons, ecs_cons, cb_ec, cb_ecs a b]
    rfl

/-! ### byte strings -/
theorem bl_cb : ∀ (a b : Bs), Op.bytesLess a b = decide (Lib.compareBytes a b = -1)
  | [], [] => rfl
  | [], _ :: _ => rfl
  | _ :: _, [] => rfl
  | x :: a, y :: b => by
    simp only [Op.bytesLess, Lib.compareBytes, bl_cb a b]
    by_cases h1 : x < y
    · simp [h1]
    · by_cases h2 : y < x
      · have : x ≠ y := fun e => by subst e; exact absurd h2 (by simp)
        simp [h1, h2, this]
      · have : x = y := UInt8.le_antisymm (UInt8.not_lt.1 h2) (UInt8.not_lt.1 h1)
        subst this
        simp

end Go.Proofs.YthgiocimimdbcaaDoor
