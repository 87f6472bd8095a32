/- Slices of asks: general lemmas (spare room, clear, append in place), rows of four cells. Conditions: none. -/
import Derived.Test.YtmppjgddemlmdaaSpn
set_option linter.unusedVariables false
set_option linter.unusedSimpArgs false
namespace Go.Proofs.Ytmppjgddemlmdaa
open Go Go.Sx

/-- The spare room, shown. -/
theorem slc_grow {w : World} {s : Sl} {size : Nat} {cs : List Value} (h : SlC w s size cs) {m : Nat} (hm : s.len + m ≤ s.cap) : ∃ junk, junk.length = m * size ∧ SlC w ⟨s.p, s.len + m, s.cap⟩ size (cs ++ junk) := by
  have hl := h.len
  rcases h.row with h0 | ⟨b, o, all, t, fr, hp, hb, h1, h2, h3⟩
  · have : m = 0 := by omega
    subst this
    exact ⟨[], by simp, by simpa using hl, by simpa using h.cap, .inl h0⟩
  · have hcap : (s.len + m) * size ≤ s.cap * size := Nat.mul_le_mul_right _ hm
    rw [Nat.add_mul] at hcap
    refine ⟨(all.toList.drop (o + s.len * size)).take (m * size), by simp; omega, by simp [hl, Nat.add_mul]; omega, hm, .inr ⟨b, o, all, t, fr, hp, hb, h1, fun j hj => ?_, h3⟩⟩
    rw [List.length_append, hl] at hj
    by_cases hj2 : j < cs.length
    · rw [h2 j hj2, List.getElem?_append_left hj2]
    · rw [List.getElem?_append_right (by omega), hl]
      have hj3 : j - s.len * size < m * size := by simp at hj; omega
      rw [List.getElem?_take, if_pos hj3, List.getElem?_drop, Array.getElem?_toList]
      congr 1
      omega
theorem blk_same {s : Sl} {n : Nat} : blk ⟨s.p, n, s.cap⟩ = blk s := rfl
theorem slc_front {w : World} {s : Sl} {size : Nat} {cs : List Value} (h : SlC w s size cs) {i : Nat} (hi : i ≤ s.len) : SlC w ⟨s.p, i, s.cap⟩ size (cs.take (i * size)) := by
  have := h.sub (lo := 0) (hi := i) (by omega) hi
  simpa [slOff_zero] using this
theorem oneZ {z : Array Value} (h1 : ∀ v ∈ z.toList, v.oneCell' = true) (n : Nat) : ∀ v ∈ zerosL z.toList n, v.oneCell' = true := by
  induction n with
  | zero => simp [zerosL]
  | succ n ih => intro v hv; rw [zerosL, List.mem_append] at hv; exact hv.elim (h1 v) (ih v)
/-- 'clear(s[i:])', then 's[:i]'. -/
theorem ClrS_front {w : World} {s : Sl} {size : Nat} {cs : List Value} (h : SlC w s size cs) {z : Array Value} (hz : z.size = size) (h1 : ∀ v ∈ z.toList, v.oneCell' = true) {i : Nat} (hi : i ≤ s.len) {K : Pr}
    (k : ∀ w', SlC w' ⟨s.p, i, s.cap⟩ size (cs.take (i * size)) → Keeps (blk s) w w' → w'.heap.size = w.heap.size → K w') : ClrS z ⟨slOff s.p s.cap i size, s.len - i, s.cap - i⟩ K w := by
  unfold ClrS
  dsimp only
  have hl := h.len
  have hc := h.cap
  split
  · exact k w (slc_front h hi) (Keeps.refl _ _) rfl
  · rename_i n hn
    obtain ⟨b, o, hp, hb⟩ := h.base (by omega)
    have hne : s.cap ≠ i := by omega
    have e : slOff s.p s.cap i size = some ⟨b, o + i * size, none⟩ := by simp [slOff, hne, hp, add_of]
    rw [e]
    dsimp only
    rw [zeroCells_eq]
    show StR (zerosL z.toList (n + 1)) _ _ _ _
    have e1 : (n + 1) * size + i * size = s.len * size := by rw [← Nat.add_mul]; congr 1; omega
    have e2 : (zerosL z.toList (n + 1)).length = (n + 1) * size := by rw [zerosL_length]; simp [hz]
    rcases h.row with hc0 | ⟨b', o', all, t, fr, hp', hbl, g1, g2, g3⟩
    · omega
    rw [hp, Option.some.injEq, Addr.mk.injEq] at hp'
    obtain ⟨rfl, rfl, _⟩ := hp'
    have hcap : s.len * size ≤ s.cap * size := Nat.mul_le_mul_right _ h.cap
    refine StR_of hbl (by omega) (oneZ h1 _) (fun j _ hj' => by rw [Nat.add_assoc]; exact g3 _ (by omega)) ?_
    refine k _ ?_ ((Keeps.refl _ _).setObjW (.inl (by simp [hb])) _) (size_setObjW _ _ _)
    refine ⟨by simp; omega, by show i ≤ s.cap; omega, .inr ⟨b, o, _, t, fr, hp, hp_setObjW_same (hp_lt hbl), by rw [setA_size]; exact g1, fun j hj => ?_, g3⟩⟩
    rw [List.length_take] at hj
    rw [setA_get _ _ _ _ (by omega), if_neg (by omega), g2 j (by omega), List.getElem?_take, if_pos (by omega)]
/-- 'append' in place. -/
theorem App_in {e size bytes : Nat} {z : Array Value} {s : Sl} {m : Nat} {src : List Value → World → Prop} {K : Sl → Pr} {w : World} {cs new : List Value} (hs : SlC w s size cs) (hn : src new w) (hl : new.length = m * size)
    (h1 : ∀ v ∈ new, v.oneCell' = true) (hc : s.len + m ≤ s.cap) (h0 : 0 < s.len + m)
    (k : ∀ w', SlC w' ⟨s.p, s.len + m, s.cap⟩ size (cs ++ new) → Keeps (blk s) w w' → K ⟨s.p, s.len + m, s.cap⟩ w') : App e size bytes z s m src K w := by
  refine ⟨new, hn, ?_⟩
  rw [if_pos hc]
  obtain ⟨junk, hj, hg⟩ := slc_grow hs hc
  obtain ⟨b, o, hp, hb⟩ := hg.base (by show 0 < s.len + m; omega)
  dsimp only at hp
  have hb : blk s = [b] := hb
  rw [hp]
  dsimp only
  rw [add_of]
  have hlen := hs.len
  refine hg.writes hp (k := s.len * size) (by rw [List.length_append]; omega) h1 ?_
  intro w' g1 g2
  have e : setL (cs ++ junk) (s.len * size) new = cs ++ new := by
    unfold setL
    rw [List.take_append_of_le_length (by omega), List.take_of_length_le (by omega), List.drop_of_length_le (by simp; omega), List.append_nil]
  rw [e] at g1
  rw [hp] at g1 k
  exact k w' g1 (by rw [hb]; exact g2)
/-- 'append' into a new row. -/
theorem App_new {e size bytes : Nat} {z : Array Value} {s : Sl} {m : Nat} {src : List Value → World → Prop} {K : Sl → Pr} {w : World} {cs new : List Value} (hs : RdC s.p (s.len * size) cs w) (hn : src new w) (hl : new.length = m * size)
    (h1 : ∀ v ∈ new, v.oneCell' = true) (hz : z.size = size) (h47 : (s.len + m) * bytes ≤ 140737488355328) (h63 : s.len + m ≤ 9223372036854775807) (hc : s.cap < s.len + m)
    (k : ∀ (r : Sl) (w' : World), SlC w' r size (cs ++ new) → r.len = s.len + m → Keeps [] w w' → (∀ x ∈ blk r, w.heap.size ≤ x) → K r w') : App e size bytes z s m src K w := by
  refine ⟨new, hn, ?_⟩
  rw [if_neg (by omega)]
  have hlen := hs.1
  refine ⟨h47, by omega, cs, hs, fun c hcc => ?_⟩
  have hsz : ((cs ++ new).toArray ++ Builtin.zeroCells z (c - (s.len + m))).size = c * size := by
    rw [zeroCells_eq, Array.size_append, List.size_toArray, List.size_toArray, List.length_append, zerosL_length, hlen, hl]
    simp only [Array.length_toList, hz]
    rw [← Nat.add_mul, ← Nat.add_mul]
    congr 1
    omega
  refine k _ _ ⟨by simp [hlen, hl, Nat.add_mul], by simpa using hcc, .inr ⟨w.heap.size, 0, _, e, (0, 0), rfl, hp_alloc_new w.drew _, by rw [hsz]; simp, ?_, ?_⟩⟩ rfl ((Keeps.refl _ _).drew.alloc _) ?_
  · intro j hj
    rw [Nat.zero_add, Array.getElem?_append_left (by simpa using hj)]
    simp
  · intro j _
    simp
  · intro x hx
    rw [blk_sub rfl x hx]
    exact Nat.le_refl _
/-- 'copy' into a part of a slice. -/
theorem Cpy_of {w : World} {s : Sl} {size : Nat} {cs vs : List Value} (h : SlC w s size cs) {i n : Nat} {src : List Value → World → Prop} (hn : src vs w) (hl : vs.length = n * size) (h1 : ∀ v ∈ vs, v.oneCell' = true) (h0 : 0 < n) (hi : i + n ≤ s.len) {K : Pr}
    (k : ∀ w', SlC w' s size (setL cs (i * size) vs) → Keeps (blk s) w w' → K w') : Cpy size (slOff s.p s.cap i size) n src K w := by
  refine ⟨vs, hn, ?_⟩
  have hlen := h.len
  have hc := h.cap
  obtain ⟨b, o, hp, hb⟩ := h.base (by omega)
  have hne : s.cap ≠ i := by omega
  have e : slOff s.p s.cap i size = some ⟨b, o + i * size, none⟩ := by simp [slOff, hne, hp, add_of]
  rw [e]
  dsimp only
  have e1 : (i + n) * size ≤ s.len * size := Nat.mul_le_mul_right _ hi
  rw [Nat.add_mul] at e1
  refine h.writes hp (k := i * size) (by omega) h1 ?_
  intro w' g1 g2
  exact k w' g1 (by rw [hb]; exact g2)

/-! ### asks -/
structure Ak where
  n : Int
  lo : ByteArray
  hi : ByteArray
  wr : Bool
deriving DecidableEq
instance : Inhabited Ak := ⟨⟨0, BA [], BA [], false⟩⟩
def cA (x : Ak) : List Value := [.int .u64 x.n, .string x.lo, .string x.hi, .bool x.wr]
theorem cA_len (x : Ak) : (cA x).length = 4 := rfl
theorem cA_one (x : Ak) : ∀ v ∈ cA x, v.oneCell' = true := by simp [cA, Value.oneCell']
theorem cAs_one (l : List Ak) : ∀ v ∈ l.flatMap cA, v.oneCell' = true := by
  intro v hv
  obtain ⟨x, _, hx⟩ := List.mem_flatMap.1 hv
  exact cA_one x v hx
abbrev As (w : World) (s : Sl) (l : List Ak) : Prop := SlC w s 4 (l.flatMap cA)
def vA (x : Ak) : Value := .agg #[.int .u64 x.n, .string x.lo, .string x.hi, .bool x.wr]
theorem as_len {w : World} {s : Sl} {l : List Ak} (h : As w s l) : s.len = l.length := SlC.slen cA_len (by omega) h
theorem flatA_len (l : List Ak) : (l.flatMap cA).length = l.length * 4 := flat_length cA_len l
theorem flatA_take (l : List Ak) (i : Nat) : (l.flatMap cA).take (i * 4) = (l.take i).flatMap cA := by
  induction l generalizing i with
  | nil => simp
  | cons x l ih =>
    cases i with
    | zero => simp
    | succ i =>
      rw [List.take_succ_cons, List.flatMap_cons, List.flatMap_cons, List.take_append, ← ih i, cA_len, List.take_of_length_le (by rw [cA_len]; omega)]
      congr 2
      omega
theorem flatA_drop (l : List Ak) (i : Nat) : (l.flatMap cA).drop (i * 4) = (l.drop i).flatMap cA := by
  induction l generalizing i with
  | nil => simp
  | cons x l ih =>
    cases i with
    | zero => simp
    | succ i =>
      rw [List.drop_succ_cons, List.flatMap_cons, List.drop_append, ← ih i, cA_len, List.drop_of_length_le (by rw [cA_len]; omega), List.nil_append]
      congr 1
      omega
theorem as_ld {w : World} {s : Sl} {l : List Ak} (h : As w s l) {i : Nat} {x : Ak} (hx : l[i]? = some x) {K : Int → ByteArray → ByteArray → Bool → Pr} (k : K x.n x.lo x.hi x.wr w) :
    Ix s (i : Int) 4 (fun a => LdI .u64 (a.add 0) fun x1 => LdS (a.add 1) fun x2 => LdS (a.add 2) fun x3 => LdB (a.add 3) fun x4 => K x1 x2 x3 x4) w := by
  have hl := as_len h
  have hi := (List.getElem?_eq_some_iff.1 hx).1
  obtain ⟨b, o, hp, _⟩ := h.base (by omega)
  have hit := fun j hj => h.item cA_len hp hx j hj
  rw [Ix_base hp (by omega) (by omega), Int.toNat_natCast]
  simp only [add_of]
  rw [LdI_c, hit 0 (by omega)]
  show asI _ _ (some (.int .u64 x.n)) _
  simp only [asI, true_and]
  rw [LdS_c, hit 1 (by omega)]
  show asS _ (some (.string x.lo)) _
  simp only [asS]
  rw [LdS_c, hit 2 (by omega)]
  show asS _ (some (.string x.hi)) _
  simp only [asS]
  rw [LdB_c, hit 3 (by omega)]
  exact k
theorem as_st {w : World} {s : Sl} {l : List Ak} (h : As w s l) {i : Nat} (hi : i < l.length) (x : Ak) {K : Pr} (k : ∀ w', As w' s (l.set i x) → Keeps (blk s) w w' → K w') :
    Ix s (i : Int) 4 (fun a => St (a.add 0) (.int .u64 x.n) <| St (a.add 1) (.string x.lo) <| St (a.add 2) (.string x.hi) <| St (a.add 3) (.bool x.wr) K) w := by
  have hl := as_len h
  obtain ⟨b, o, hp, hb⟩ := h.base (by omega)
  rw [Ix_base hp (by omega) (by omega), Int.toNat_natCast]
  refine h.putAll cA_len hp hi x (cA_one x) ?_
  intro w' g1 g2
  exact k w' g1 (by rw [hb]; exact g2)
theorem bx4 {n : Int} {lo hi : ByteArray} {wr : Bool} {K : Addr → Pr} {w : World} (h : ∀ b w1, w1.heap[b]? = some (.cells #[.int .u64 n, .string lo, .string hi, .bool wr] 48 (0, 0)) → w.heap.size ≤ b → Keeps [] w w1 → K ⟨b, 0, none⟩ w1) :
    New #[(.int .u64 0), (.string (BA [])), (.string (BA [])), (.bool false)] 48 (fun a => St (a.add 0) (.int .u64 n) <| St (a.add 1) (.string lo) <| St (a.add 2) (.string hi) <| St (a.add 3) (.bool wr) (K a)) w := by
  refine New_bx fun b w1 h1 n1 k1 => ?_
  simp only [add_of, Nat.reduceAdd]
  refine set_box h1 0 _ rfl (by simp) fun w2 h2 k2 => ?_
  refine set_box h2 1 _ rfl (by simp) fun w3 h3 k3 => ?_
  refine set_box h3 2 _ rfl (by simp) fun w4 h4 k4 => ?_
  refine set_box h4 3 _ rfl (by simp) fun w5 h5 k5 => ?_
  exact h b w5 h5 n1 (kpx (kpx (kpx (kpx k1 k2 (by simpa using n1)) k3 (by simpa using n1)) k4 (by simpa using n1)) k5 (by simpa using n1))
end Go.Proofs.Ytmppjgddemlmdaa
