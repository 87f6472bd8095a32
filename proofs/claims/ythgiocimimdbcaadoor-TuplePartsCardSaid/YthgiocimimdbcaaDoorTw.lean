/- The small functions of layer 3 and of its reference: same, CheckKey, Compare, TrimSuffix. Conditions: none. -/
import Derived.Test.YthgiocimimdbcaaDoorTp
set_option linter.unusedVariables false
set_option linter.unusedSimpArgs false
namespace Go.Proofs.YthgiocimimdbcaaDoor
open Go Go.Sx

theorem BA_data (b : Bs) : (BA b).data.toList = b := by simp [BA]
theorem BA_toList (b : Bs) : (BA b).toList = b := by rw [ByteArray.toList_eq]; exact BA_data b
theorem BA_size (b : Bs) : (BA b).size = b.length := by simp [BA, ByteArray.size]
theorem BA_of (s : ByteArray) : BA s.data.toList = s := mk_data s
theorem seq_BA (a b : Bs) : seq (BA a) (BA b) = decide (a = b) := by
  unfold seq
  rw [BA_toList, BA_toList]
  by_cases h : a = b <;> simp [h]
theorem slt_BA (a b : Bs) : slt (BA a) (BA b) = decide (Lib.compareBytes a b = -1) := by
  unfold slt
  rw [BA_toList, BA_toList, bl_cb]
theorem BA_extract (b : Bs) (i j : Nat) : (BA b).extract i j = BA ((b.drop i).take (j - i)) := by
  apply ByteArray.ext
  apply Array.toList_inj.1
  simp [BA, ByteArray.data_extract]
theorem BA_app (a b : Bs) : BA a ++ BA b = BA (a ++ b) := by
  apply ByteArray.ext
  apply Array.toList_inj.1
  simp [BA, ByteArray.data_append]
theorem BA_get (b : Bs) (i : Nat) : (BA b)[i]? = b[i]? := by
  by_cases h : i < b.length
  · rw [getElem?_pos (BA b) i (by rw [BA_size]; exact h), List.getElem?_eq_getElem h]
    simp [BA, ByteArray.getElem_eq_getElem_data]
  · rw [getElem?_neg (BA b) i (by rw [BA_size]; exact h), List.getElem?_eq_none (by omega)]

def cT (l : List Bs) : List Value := l.map fun b => .string (BA b)
theorem cT_length (l : List Bs) : (cT l).length = l.length := by simp [cT]
theorem cT_one (l : List Bs) : ∀ v ∈ cT l, v.oneCell' = true := by simp [cT, Value.oneCell']
theorem cT_app (a b : List Bs) : cT (a ++ b) = cT a ++ cT b := by simp [cT]

/-- A slice of texts, to be read. -/
structure Tx (w : World) (s : Sl) (l : List Bs) : Prop where
  rd : RdC s.p (s.len * 1) (cT l) w
  len : s.len = l.length

theorem Tx.keeps {w w' : World} {s : Sl} {l : List Bs} {m : List Nat} (h : Tx w s l) (hk : Keeps m w w') (hd : ∀ a, s.p = some a → a.block ∉ m) : Tx w' s l := ⟨rdc_keeps h.rd hk hd, h.len⟩
theorem Tx.keep {w w' : World} {s : Sl} {l : List Bs} (h : Tx w s l) (hk : Keeps [] w w') : Tx w' s l := h.keeps hk (by simp)
theorem Tx.of {w : World} {s : Sl} {l : List Bs} (h : SlC w s 1 (cT l)) : Tx w s l := ⟨h.rdc, by have := h.len; rw [cT_length] at this; omega⟩
theorem addr_add0 (a : Addr) : a.add 0 = a := by unfold Addr.add; split <;> simp_all
theorem Tx.ix {w : World} {s : Sl} {l : List Bs} (h : Tx w s l) {i : Nat} {b : Bs} (hb : l[i]? = some b) {K : ByteArray → Pr} (k : K (BA b) w) : Ix s (i : Int) 1 (fun a => LdS a K) w := by
  have hi := (List.getElem?_eq_some_iff.1 hb).1
  refine Ix_row h.rd (by omega) (by rw [h.len]; exact hi) fun a ha => ?_
  have := ha 0 (.string (BA b)) (by omega) (by simp [cT, hb])
  exact ⟨_, by rw [addr_add0] at this; exact this, k⟩

theorem same_ok {w : World} {a b : Sl} {x y : List Bs} (ha : Tx w a x) (hb : Tx w b y) (hl : a.len ≤ 9223372036854775807) :
    Cl Tryd.prog 11 [.slice a.p a.len a.cap, .slice b.p b.len b.cap] false [.sc .b] (fun r w' => r.1 = decide (x = y) ∧ Keeps [] w w') w := by
  refine Cl_gen fun R hR => ?_
  apply sumpterlaw03_same_call
  unfold sumpterlaw03_same
  by_cases hn : a.len = b.len
  · have e : (((a.len : Nat) : Int) != ((b.len : Nat) : Int)) = false := by simp [hn]
    simp only [e, sx]
    refine ⟨fun n s w' => ∃ i : Nat, s.2.1 = (i : Int) ∧ n = a.len - i ∧ i ≤ a.len ∧ x.take i = y.take i ∧ Keeps [] w w', ⟨_, 0, rfl, rfl, by omega, rfl, Keeps.refl _ _⟩, ?_⟩
    rintro _ ⟨s1, _, _⟩ w' ⟨i, rfl, rfl, hi, ht, hk⟩
    dsimp only
    by_cases hil : i < a.len
    · rw [decide_eq_true (by omega)]
      simp only [sx, Dr]
      have hkd := hk.drew
      have hx : i < x.length := by rw [← ha.len]; exact hil
      have hy : i < y.length := by rw [← hb.len]; omega
      obtain ⟨p, hp⟩ : ∃ p, x[i]? = some p := ⟨_, List.getElem?_eq_getElem hx⟩
      obtain ⟨q, hq⟩ : ∃ q, y[i]? = some q := ⟨_, List.getElem?_eq_getElem hy⟩
      refine (ha.keep hkd).ix hp ?_
      refine (hb.keep hkd).ix hq ?_
      rw [seq_BA]
      by_cases hpq : p = q
      · subst hpq
        simp only [decide_true, Bool.not_true, sx]
        refine ⟨a.len - (i + 1), by omega, i + 1, w64_nat (n := i + 1) (by omega), rfl, by omega, ?_, hkd⟩
        rw [List.take_add_one, List.take_add_one, ht, hp, hq]
      · rw [decide_eq_false hpq]
        simp only [Bool.not_false, sx]
        refine hR _ _ ⟨?_, hkd⟩
        rw [decide_eq_false]
        rintro rfl
        rw [hp] at hq
        simp at hq
        exact hpq hq
    · rw [decide_eq_false (by omega)]
      simp only [sx]
      refine hR _ _ ⟨?_, hk⟩
      rw [List.take_of_length_le (by rw [← ha.len]; omega), List.take_of_length_le (by rw [← hb.len]; omega)] at ht
      simp [ht]
  · have e : (((a.len : Nat) : Int) != ((b.len : Nat) : Int)) = true := by simp; omega
    simp only [e, sx]
    refine hR _ _ ⟨?_, Keeps.refl _ _⟩
    rw [decide_eq_false]
    rintro rfl
    exact hn (by rw [ha.len, hb.len])

/-- What 'CheckKey' says of a key. -/
def ck (k : Bs) : Int := if k.length < 1 ∨ 12 < k.length then 20 else 0

theorem CheckKey_ok {w : World} (k : Bs) : Cl Tryd.prog 18 [.string (BA k)] false [.sc (.i .i64)] (fun r w' => r.1 = ck k ∧ w = w') w := by
  refine Cl_gen fun R hR => ?_
  apply span_CheckKey_call
  unfold span_CheckKey
  rw [show BA [] = BA ([] : Bs) from rfl, seq_BA, BA_size]
  simp only [Jp]
  refine Br_of (fun h => ?_) (fun h => ?_)
  · simp at h
    exact hR _ _ ⟨by simp [ck, h], rfl⟩
  · simp at h
    refine Br_of (fun h1 => ?_) (fun h1 => ?_)
    · simp at h1
      exact hR _ _ ⟨by show (20 : Int) = ck k; unfold ck; rw [if_pos (by omega)], rfl⟩
    · simp at h1
      have : k.length ≠ 0 := fun e => h (List.eq_nil_of_length_eq_zero e)
      exact hR _ _ ⟨by show (0 : Int) = ck k; unfold ck; rw [if_neg (by omega)], rfl⟩

theorem rCheckKey_ok {w : World} (k : Bs) : Cl Tryd.prog 20 [.string (BA k)] false [.sc (.i .i64)] (fun r w' => r.1 = ck k ∧ w = w') w := by
  refine Cl_gen fun R hR => ?_
  apply sumpterref02_CheckKey_call
  unfold sumpterref02_CheckKey
  rw [BA_size]
  simp only [Jp]
  refine Br_of (fun h => ?_) (fun h => ?_)
  · have h := of_decide_eq_true h
    exact hR _ _ ⟨by show (20 : Int) = ck k; unfold ck; rw [if_pos (by omega)], rfl⟩
  · have h := of_decide_eq_false h
    refine Br_of (fun h1 => ?_) (fun h1 => ?_)
    · have h1 := of_decide_eq_true h1
      exact hR _ _ ⟨by show (20 : Int) = ck k; unfold ck; rw [if_pos (by omega)], rfl⟩
    · have h1 := of_decide_eq_false h1
      exact hR _ _ ⟨by show (0 : Int) = ck k; unfold ck; rw [if_neg (by omega)], rfl⟩

theorem cmpInt_ok {w : World} (a b : Int) : Cl Tryd.prog 26 [.int .i64 a, .int .i64 b] false [.sc (.i .i64)] (fun r w' => r.1 = (if a < b then -1 else if b < a then 1 else 0) ∧ w = w') w := by
  refine Cl_gen fun R hR => ?_
  apply cmp_Compare_call
  unfold cmp_Compare
  have nn : ∀ (c : Int) {R' : TR [.sc .b] → Pr}, R' (false, ()) w → Cl Tryd.prog 35 [.int .i64 c] false [.sc .b] R' w := fun c R' h => by
    apply cmp_isNaN_call
    unfold cmp_isNaN
    simpa using h
  refine nn a ?_
  refine nn b ?_
  simp only [sx]
  refine Br_of (fun h => ?_) (fun h => Br_of (fun h1 => ?_) (fun h1 => ?_))
  · simp at h
    exact hR _ _ ⟨by rw [if_pos h], rfl⟩
  · simp at h h1
    exact hR _ _ ⟨by rw [if_neg (by omega), if_pos (by omega)], rfl⟩
  · simp at h h1
    exact hR _ _ ⟨by rw [if_neg (by omega), if_neg (by omega)], rfl⟩

/-- How two lists are ordered, from a place on where they are alike before it. -/
theorem cmpL_drop : ∀ {x y : List Bs} {i : Nat}, x.take i = y.take i → i ≤ x.length → i ≤ y.length → cmpL x y = cmpL (x.drop i) (y.drop i)
  | _, _, 0, _, _, _ => by simp
  | [], _, i + 1, _, h, _ => by simp at h
  | _ :: _, [], i + 1, _, _, h => by simp at h
  | p :: x, q :: y, i + 1, h, h1, h2 => by
    simp at h h1 h2
    obtain ⟨rfl, h⟩ := h
    rw [List.drop_succ_cons, List.drop_succ_cons, ← cmpL_drop h h1 h2]
    simp [cmpL, cb_self]

theorem cmpL_end {x y : List Bs} {m : Nat} (hm : m = min x.length y.length) (h : x.take m = y.take m) : cmpL x y = if x.length < y.length then -1 else if y.length < x.length then 1 else 0 := by
  rw [cmpL_drop h (by omega) (by omega)]
  by_cases h1 : x.length < y.length
  · rw [if_pos h1, List.drop_of_length_le (by omega)]
    have hlt : m < y.length := by omega
    rw [List.drop_eq_getElem_cons hlt]
    rfl
  · rw [if_neg h1]
    by_cases h2 : y.length < x.length
    · rw [if_pos h2, List.drop_of_length_le (l := y) (by omega)]
      have hlt : m < x.length := by omega
      rw [List.drop_eq_getElem_cons hlt]
      rfl
    · rw [if_neg h2, List.drop_of_length_le (by omega), List.drop_of_length_le (by omega)]
      rfl

theorem Compare_ok {w : World} {a b : Sl} {x y : List Bs} (ha : Tx w a x) (hb : Tx w b y) (hla : a.len ≤ 9223372036854775807) (hlb : b.len ≤ 9223372036854775807) :
    Cl Tryd.prog 13 [.slice a.p a.len a.cap, .slice b.p b.len b.cap] false [.sc (.i .i64)] (fun r w' => r.1 = cmpL x y ∧ Keeps [] w w') w := by
  refine Cl_gen fun R hR => ?_
  apply tuple_Compare_call
  unfold tuple_Compare
  obtain ⟨m, hm⟩ : ∃ m : Nat, min a.len b.len = m := ⟨_, rfl⟩
  have hmi : (if ((b.len : Nat) : Int) < ((a.len : Nat) : Int) then ((b.len : Nat) : Int) else ((a.len : Nat) : Int)) = (m : Int) := by split <;> omega
  rw [hmi]
  have hax := ha.len
  have hby := hb.len
  refine ⟨fun n s w' => ∃ i : Nat, s.2.1 = (i : Int) ∧ n = m - i ∧ i ≤ m ∧ x.take i = y.take i ∧ Keeps [] w w', ⟨_, 0, rfl, rfl, by omega, rfl, Keeps.refl _ _⟩, ?_⟩
  rintro _ ⟨s1, _, _⟩ w' ⟨i, rfl, rfl, hi, ht, hk⟩
  dsimp only
  by_cases hil : i < m
  · rw [decide_eq_true (by omega)]
    simp only [sx, Dr]
    have hkd := hk.drew
    obtain ⟨p, hp⟩ : ∃ p, x[i]? = some p := ⟨_, List.getElem?_eq_getElem (by omega)⟩
    obtain ⟨q, hq⟩ : ∃ q, y[i]? = some q := ⟨_, List.getElem?_eq_getElem (by omega)⟩
    refine (ha.keep hkd).ix hp ?_
    refine (hb.keep hkd).ix hq ?_
    refine Cl.mono (CompareS_ok _ _ _) ?_
    rintro r w2 ⟨hr, rfl⟩
    rw [BA_data, BA_data] at hr
    rw [hr]
    by_cases hpq : Lib.compareBytes p q = 0
    · have := cb_zero.1 hpq
      subst this
      simp only [hpq, bne_self_eq_false, sx]
      refine ⟨m - (i + 1), by omega, i + 1, w64_nat (n := i + 1) (by omega), rfl, by omega, ?_, hkd⟩
      rw [List.take_add_one, List.take_add_one, ht, hp, hq]
    · rw [show (Lib.compareBytes p q != 0) = true by simpa using hpq]
      simp only [sx]
      refine hR _ _ ⟨?_, hkd⟩
      obtain ⟨hx1, hx2⟩ := List.getElem?_eq_some_iff.1 hp
      obtain ⟨hy1, hy2⟩ := List.getElem?_eq_some_iff.1 hq
      rw [cmpL_drop ht (by omega) (by omega), List.drop_eq_getElem_cons hx1, List.drop_eq_getElem_cons hy1, hx2, hy2]
      simp only [cmpL]
      rw [if_pos hpq]
  · rw [decide_eq_false (by omega)]
    simp only [sx]
    refine Cl.mono (cmpInt_ok _ _) ?_
    rintro r w2 ⟨hr, rfl⟩
    refine hR _ _ ⟨?_, hk⟩
    rw [hr]
    have hme : i = m := by omega
    subst hme
    rw [cmpL_end (by omega) ht, ← hax, ← hby]
    simp only [Int.ofNat_lt]

theorem rCompare_ok {w : World} {a b : Sl} {x y : List Bs} (ha : Tx w a x) (hb : Tx w b y) (hla : a.len ≤ 9223372036854775807) (hlb : b.len ≤ 9223372036854775807) :
    Cl Tryd.prog 17 [.slice a.p a.len a.cap, .slice b.p b.len b.cap] false [.sc (.i .i64)] (fun r w' => r.1 = cmpL x y ∧ Keeps [] w w') w := by
  refine Cl_gen fun R hR => ?_
  apply sumpterref03_Compare_call
  unfold sumpterref03_Compare
  have hax := ha.len
  have hby := hb.len
  refine ⟨fun n s w' => ∃ i : Nat, s.2.1 = (i : Int) ∧ n = a.len - i ∧ i ≤ a.len ∧ x.take (min i b.len) = y.take (min i b.len) ∧ Keeps [] w w', ⟨_, 0, rfl, rfl, by omega, by simp, Keeps.refl _ _⟩, ?_⟩
  rintro _ ⟨s1, _, _⟩ w' ⟨i, rfl, rfl, hi, ht, hk⟩
  dsimp only
  by_cases hil : i < a.len
  · rw [decide_eq_true (by omega)]
    simp only [sx]
    obtain ⟨p, hp⟩ : ∃ p, x[i]? = some p := ⟨_, List.getElem?_eq_getElem (by omega)⟩
    have hk1 := hk.drew
    have hk2 := hk1.drew
    by_cases hib : i < b.len
    · obtain ⟨q, hq⟩ : ∃ q, y[i]? = some q := ⟨_, List.getElem?_eq_getElem (by omega)⟩
      rw [show min i b.len = i by omega] at ht
      obtain ⟨hx1, hx2⟩ := List.getElem?_eq_some_iff.1 hp
      obtain ⟨hy1, hy2⟩ := List.getElem?_eq_some_iff.1 hq
      have hc : cmpL x y = if Lib.compareBytes p q ≠ 0 then Lib.compareBytes p q else cmpL (x.drop (i + 1)) (y.drop (i + 1)) := by
        rw [cmpL_drop ht (by omega) (by omega), List.drop_eq_getElem_cons hx1, List.drop_eq_getElem_cons hy1, hx2, hy2]
        rfl
      simp only [Jp, Dr, hib, sx]
      have hd : (decide ((i : Int) < ((b.len : Nat) : Int))) = true := decide_eq_true (by omega)
      simp only [hd, sx]
      refine (ha.keep hk1).ix hp ?_
      refine (hb.keep hk1).ix hq ?_
      rw [slt_BA]
      refine Br_of (fun h => ?_) (fun h => ?_)
      · simp only [decide_eq_true_eq] at h
        refine hR _ _ ⟨?_, hk1⟩
        rw [hc, h]
        rfl
      · simp only [decide_eq_false_iff_not] at h
        refine (ha.keep hk2).ix hp ?_
        refine (hb.keep hk2).ix hq ?_
        rw [slt_BA, seq_BA, decide_eq_false h]
        refine Br_of (fun h1 => ?_) (fun h1 => ?_)
        · simp only [Bool.false_or, Bool.not_eq_true', decide_eq_false_iff_not] at h1
          refine hR _ _ ⟨?_, hk2⟩
          have h2 : Lib.compareBytes p q = 1 := by
            rcases cb_range p q with h3 | h3 | h3
            · exact absurd h3 h
            · exact absurd (cb_zero.1 h3) h1
            · exact h3
          rw [hc, h2]
          rfl
        · simp only [Bool.false_or, Bool.not_eq_false', decide_eq_true_eq] at h1
          subst h1
          refine ⟨a.len - (i + 1), by omega, i + 1, w64_nat (n := i + 1) (by omega), rfl, by omega, ?_, hk2⟩
          rw [show min (i + 1) b.len = i + 1 by omega, List.take_add_one, List.take_add_one, ht, hp, hq]
    · have hd : (decide ((i : Int) < ((b.len : Nat) : Int))) = false := decide_eq_false (by omega)
      simp only [Jp, Dr, hd, sx]
      refine ⟨a.len - (i + 1), by omega, i + 1, w64_nat (n := i + 1) (by omega), rfl, by omega, ?_, hk2⟩
      rw [show min (i + 1) b.len = min i b.len by omega]
      exact ht
  · rw [decide_eq_false (by omega)]
    simp only [sx]
    have he := cmpL_end (by omega) ht
    rw [← hax, ← hby] at he
    refine Br_of (fun h => ?_) (fun h => Br_of (fun h1 => ?_) (fun h1 => ?_))
    · have h := of_decide_eq_true h
      rw [if_pos (by omega)] at he
      exact hR _ _ ⟨by rw [he], hk⟩
    · have h := of_decide_eq_false h
      have h1 := of_decide_eq_true h1
      rw [if_neg (by omega), if_pos (by omega)] at he
      exact hR _ _ ⟨by rw [he], hk⟩
    · have h := of_decide_eq_false h
      have h1 := of_decide_eq_false h1
      rw [if_neg (by omega), if_neg (by omega)] at he
      exact hR _ _ ⟨by rw [he], hk⟩

end Go.Proofs.YthgiocimimdbcaaDoor
