/- Short forms for walks. Conditions: none. -/
import Derived.Test.YtmaegpgepcjcbaaNaG
import Derived.Test.YtmaegpgepcjcbaaProg
set_option linter.all false
namespace Go.Proofs.SX
open Go Go.RowKit
section
variable {P : Program} {na : Md} {Q : XE → St → Prop}
/-- A loop whose rounds make blocks: they get their names anew. -/
def handedR {α : Type} (I : α → St) (J : α → Prop) (μ : α → Nat) (x : α) (Q : XE → St → Prop) : XE → St → Prop
  | .normal, s => ∃ y σ hp1, SLe s ⟨renF σ (I y).fr, hp1⟩ ∧ Ren σ ⟨renF σ (I y).fr, hp1⟩ (I y) ∧ J y ∧ μ y < μ x
  | x, s => Q x s
theorem handedR.mk {α : Type} {I : α → St} {J : α → Prop} {μ : α → Nat} {x : α} {Q : XE → St → Prop} {s : St} (y : α) (σ : List Nat) (hp1 : List Blk) (h1 : SLe s ⟨renF σ (I y).fr, hp1⟩) (h2 : Ren σ ⟨renF σ (I y).fr, hp1⟩ (I y)) (h3 : J y) (h4 : μ y < μ x) : handedR I J μ x Q .normal s := ⟨y, σ, hp1, h1, h2, h3, h4⟩
theorem AWP.loopQ {α : Type} (I : α → St) (J : α → Prop) (μ : α → Nat) {b : Code} {s : St} (x0 : α) (h0 : SLe s (I x0)) (hJ : J x0) (round : ∀ x, J x → AWP na P b (I x) (handedR I J μ x Q)) : AWP na P (.loop b) s Q := by
  refine AWP.le h0 ?_
  intro O B w0 R a hna hc
  refine wpIn_loop_ghost (fun n a w => ∃ x R, J x ∧ μ x = n ∧ R.w = w ∧ ConcL O B w0 (I x) R a) (μ x0) ⟨x0, R, hJ, rfl, rfl, hc⟩ ?_
  rintro n a w ⟨x, R, hJx, rfl, rfl, hc⟩
  refine wpIn_mono (round x hJx O B w0 R a hna hc) ?_
  rintro e a' w' ⟨z, s', R', rfl, hq, rfl, hc'⟩
  cases z with
  | normal =>
    obtain ⟨y, σ, hp1, hle, hr, hJy, hy⟩ := hq
    obtain ⟨R1, hR1, hc1⟩ := hc'.le hle
    obtain ⟨R2, hR2, hc2⟩ := hc1.ren hr
    exact ⟨μ y, hy, y, R2, hJy, rfl, hR2.trans hR1, hc2⟩
  | exit id => exact ⟨_, _, _, rfl, hq, rfl, hc'⟩
  | ret => exact ⟨_, _, _, rfl, hq, rfl, hc'⟩
end
theorem AvLe.int_eq {k : IntKind} {x y : Int} (h : x = y) : AvLe (.int k x) (.int k y) := by rw [h]; exact .same _
theorem AvLe.osl_eq {n : Nat} {x y x' y' : Int} (h : x = y) (h' : x' = y') : AvLe (.osl n x x') (.osl n y y') := by rw [h, h']; exact .same _
theorem AvLe.lit_eq {k : IntKind} {n : Nat} {y : Int} (h : (n : Int) = y) : AvLe (.lit k n) (.int k y) := by rw [← h]; exact .lit _ _
theorem BlLe.row_eq {k : IntKind} {x y : List Int} (h : x = y) : BlLe (.row k x) (.row k y) := by rw [h]; exact .same _
end Go.Proofs.SX

namespace Go.Proofs.SX
open Go
set_option linter.unusedVariables false
set_option linter.unusedSimpArgs false

/-- The value of the first so many digits. -/
def pre (b : Nat) (a : LI) : Nat → Nat
  | 0 => 0
  | i + 1 => pre b a i + (a.getD i 0).toNat * b ^ i
def V (b : Nat) (a : LI) : Nat := pre b a a.length
/-- All are digits. -/
def Dg (b : Nat) (a : LI) : Prop := ∀ i, 0 ≤ a.getD i 0 ∧ a.getD i 0 < b
def digs (b n : Nat) : LI := if h : b < 2 ∨ n = 0 then [] else ((n % b : Nat) : Int) :: digs b (n / b)
  termination_by n
  decreasing_by exact Nat.div_lt_self (by omega) (by omega)

theorem Dg.of_mem {b : Nat} {a : LI} (hb : 0 < b) (h : ∀ x ∈ a, 0 ≤ x ∧ x < b) : Dg b a := by
  intro i
  by_cases hi : i < a.length
  · rw [List.getD_eq_getElem?_getD, List.getElem?_eq_getElem hi]; exact h _ (List.getElem_mem hi)
  · rw [List.getD_eq_getElem?_getD, List.getElem?_eq_none (by omega)]; simp; omega
theorem Dg.mem {b : Nat} {a : LI} (h : Dg b a) : ∀ x ∈ a, 0 ≤ x ∧ x < b := by
  intro x hx
  obtain ⟨i, hi, rfl⟩ := List.getElem_of_mem hx
  have := h i
  rw [List.getD_eq_getElem?_getD, List.getElem?_eq_getElem hi] at this
  exact this
theorem pre_lt {b : Nat} {a : LI} (h : Dg b a) : ∀ i, pre b a i < b ^ i
  | 0 => by simp [pre]
  | i + 1 => by
    have h1 := pre_lt h i
    have h2 := h i
    have h3 : (a.getD i 0).toNat + 1 ≤ b := by omega
    have h4 : ((a.getD i 0).toNat + 1) * b ^ i ≤ b * b ^ i := Nat.mul_le_mul_right _ h3
    rw [Nat.add_mul, Nat.one_mul] at h4
    show pre b a i + (a.getD i 0).toNat * b ^ i < b ^ (i + 1)
    rw [Nat.pow_succ, Nat.mul_comm (b ^ i) b]
    omega
theorem getD_big {a : LI} {i : Nat} (h : a.length ≤ i) : a.getD i 0 = 0 := by
  rw [List.getD_eq_getElem?_getD, List.getElem?_eq_none h]; rfl
theorem pre_ge {b : Nat} {a : LI} : ∀ {i}, a.length ≤ i → pre b a i = V b a := by
  intro i h
  obtain ⟨k, rfl⟩ := Nat.exists_eq_add_of_le h
  clear h
  induction k with
  | zero => rfl
  | succ k ih =>
    show pre b a (a.length + k) + (a.getD (a.length + k) 0).toNat * _ = _
    rw [getD_big (by omega), ih]; simp
theorem V_lt {b : Nat} {a : LI} (h : Dg b a) : V b a < b ^ a.length := pre_lt h _
theorem pre_cons {b : Nat} {x : Int} {l : LI} : ∀ i, pre b (x :: l) (i + 1) = x.toNat + b * pre b l i
  | 0 => by simp [pre]
  | i + 1 => by
    show pre b (x :: l) (i + 1) + ((x :: l).getD (i + 1) 0).toNat * b ^ (i + 1) = _
    rw [pre_cons i]
    show x.toNat + b * pre b l i + (l.getD i 0).toNat * b ^ (i + 1) = x.toNat + b * (pre b l i + (l.getD i 0).toNat * b ^ i)
    rw [Nat.mul_add, Nat.pow_succ, ← Nat.mul_assoc, Nat.mul_comm ((l.getD i 0).toNat * b ^ i) b, Nat.add_assoc]
theorem V_cons {b : Nat} {x : Int} {l : LI} : V b (x :: l) = x.toNat + b * V b l := pre_cons _
theorem V_nil {b : Nat} : V b [] = 0 := rfl
theorem Dg.tail {b : Nat} {x : Int} {l : LI} (h : Dg b (x :: l)) : Dg b l := fun i => h (i + 1)
theorem Dg.nil {b : Nat} (hb : 0 < b) : Dg b [] := Dg.of_mem hb (fun x hx => by cases hx)
theorem Dg.cons {b : Nat} {x : Int} {l : LI} (h : 0 ≤ x ∧ x < b) (hl : Dg b l) : Dg b (x :: l) := fun i => match i with | 0 => h | i + 1 => hl i
theorem getD_set {a : LI} {i : Nat} {v : Int} (hi : i < a.length) (j : Nat) : (a.set i v).getD j 0 = if j = i then v else a.getD j 0 := by
  simp only [List.getD_eq_getElem?_getD, List.getElem?_set]
  by_cases h : i = j
  · subst h; simp [hi]
  · rw [if_neg h, if_neg (fun e => h e.symm)]
theorem Dg.set {b : Nat} {a : LI} (h : Dg b a) {i : Nat} {v : Int} (hv : 0 ≤ v ∧ v < b) : Dg b (a.set i v) := by
  by_cases hi : i < a.length
  · intro j; rw [getD_set hi]; split
    · exact hv
    · exact h j
  · rw [List.set_eq_of_length_le (by omega)]; exact h
theorem pre_congr {b : Nat} {a c : LI} : ∀ {i}, (∀ j, j < i → a.getD j 0 = c.getD j 0) → pre b a i = pre b c i
  | 0, _ => rfl
  | i + 1, h => by
    show pre b a i + _ = pre b c i + _
    rw [pre_congr fun j hj => h j (by omega), h i (by omega)]
theorem pre_set {b : Nat} {a : LI} {i j : Nat} {v : Int} (h : i ≤ j) : pre b (a.set j v) i = pre b a i := by
  by_cases hj : j < a.length
  · exact pre_congr fun k hk => by rw [getD_set hj, if_neg (by omega)]
  · rw [List.set_eq_of_length_le (by omega)]
theorem pre_succ {b : Nat} {a : LI} {i : Nat} : pre b a (i + 1) = pre b a i + (a.getD i 0).toNat * b ^ i := rfl

theorem digs_zero {b : Nat} : digs b 0 = [] := by rw [digs]; simp
theorem digs_pos {b n : Nat} (hb : 2 ≤ b) (hn : n ≠ 0) : digs b n = ((n % b : Nat) : Int) :: digs b (n / b) := by
  rw [digs]; rw [dif_neg (by omega)]
theorem V_digs {b : Nat} (hb : 2 ≤ b) (n : Nat) : V b (digs b n) = n := by
  induction n using Nat.strongRecOn with
  | _ n ih =>
    by_cases hn : n = 0
    · subst hn; rw [digs_zero]; rfl
    · rw [digs_pos hb hn, V_cons, ih _ (Nat.div_lt_self (by omega) (by omega))]
      simp only [Int.toNat_natCast]
      have := Nat.div_add_mod n b
      omega
theorem Dg.digs {b : Nat} (hb : 2 ≤ b) (n : Nat) : Dg b (digs b n) := by
  induction n using Nat.strongRecOn with
  | _ n ih =>
    by_cases hn : n = 0
    · subst hn; rw [digs_zero]; exact Dg.nil (by omega)
    · rw [digs_pos hb hn]
      refine Dg.cons ⟨by omega, ?_⟩ (ih _ (Nat.div_lt_self (by omega) (by omega)))
      have := Nat.mod_lt n (show 0 < b by omega)
      omega
theorem V_eq_zero {b : Nat} (hb : 2 ≤ b) : ∀ {l : LI}, Dg b l → V b l = 0 → ∀ j, l.getD j 0 = 0
  | [], _, _, j => by simp
  | x :: l, h, h0, j => by
    rw [V_cons] at h0
    have h1 : x.toNat = 0 ∧ b * V b l = 0 := by omega
    have h2 : V b l = 0 := by
      rcases Nat.mul_eq_zero.1 h1.2 with h | h
      · omega
      · exact h
    cases j with
    | zero => have := h 0; simp at this ⊢; omega
    | succ j => exact V_eq_zero hb h.tail h2 j
theorem Dg.replicate {b : Nat} (hb : 0 < b) (n : Nat) : Dg b (List.replicate n 0) := Dg.of_mem hb fun x hx => by
  obtain ⟨_, rfl⟩ := List.mem_replicate.1 hx; omega
/-- No nought at the end. -/
def Top (l : LI) : Prop := l.length = 0 ∨ l.getD (l.length - 1) 0 ≠ 0
theorem digs_V {b : Nat} (hb : 2 ≤ b) : ∀ {l : LI}, Dg b l → Top l → digs b (V b l) = l
  | [], _, _ => digs_zero
  | x :: l, h, ht => by
    have htl : Top l := by
      cases l with
      | nil => exact .inl rfl
      | cons y l => rcases ht with ht | ht
                    · simp at ht
                    · exact .inr (by simpa using ht)
    have hx := h 0
    simp only [List.getD_cons_zero] at hx
    have hne : V b (x :: l) ≠ 0 := by
      intro h0
      rcases ht with ht | ht
      · simp at ht
      · exact ht (V_eq_zero hb h h0 _)
    rw [digs_pos hb hne]
    have hxb : x.toNat < b := by omega
    have e1 : V b (x :: l) % b = x.toNat := by rw [V_cons, Nat.add_mul_mod_self_left, Nat.mod_eq_of_lt hxb]
    have e2 : V b (x :: l) / b = V b l := by rw [V_cons, Nat.add_mul_div_left _ _ (by omega), Nat.div_eq_of_lt hxb, Nat.zero_add]
    rw [e1, e2, digs_V hb h.tail htl]
    congr 1; omega
theorem Top.digs {b : Nat} (hb : 2 ≤ b) (n : Nat) : Top (digs b n) := by
  induction n using Nat.strongRecOn with
  | _ n ih =>
    by_cases hn : n = 0
    · subst hn; rw [digs_zero]; exact .inl rfl
    · right
      rw [digs_pos hb hn]
      by_cases h0 : n / b = 0
      · rw [h0, digs_zero]
        have := Nat.div_add_mod n b
        rw [h0] at this
        simp
        omega
      · have hi := ih _ (Nat.div_lt_self (by omega) (by omega : 1 < b))
        rcases hi with hi | hi
        · rw [digs_pos hb h0] at hi; simp at hi
        · have hl : (Go.Proofs.SX.digs b (n / b)).length ≠ 0 := by rw [digs_pos hb h0]; simp
          obtain ⟨m, hm⟩ := Nat.exists_eq_succ_of_ne_zero hl
          rw [hm] at hi
          simp only [List.length_cons, hm]
          exact hi
theorem digs_len {b : Nat} (hb : 2 ≤ b) : ∀ {k n : Nat}, n < b ^ k → (digs b n).length ≤ k
  | 0, n, h => by
    have : n = 0 := by simp at h; exact h
    subst this; rw [digs_zero]; exact Nat.le_refl _
  | k + 1, n, h => by
    by_cases hn : n = 0
    · subst hn; rw [digs_zero]; exact Nat.zero_le _
    · rw [digs_pos hb hn, List.length_cons]
      have := digs_len hb (k := k) (n := n / b) (Nat.div_lt_of_lt_mul (by rw [Nat.pow_succ, Nat.mul_comm] at h; exact h))
      omega
theorem lt_of_digs_len {b : Nat} (hb : 2 ≤ b) {k n : Nat} (h : (digs b n).length ≤ k) : n < b ^ k := by
  have := V_lt (Dg.digs hb n)
  rw [V_digs hb] at this
  exact Nat.lt_of_lt_of_le this (Nat.pow_le_pow_right (by omega) h)
theorem getD_eq {b : Nat} (hb : 2 ≤ b) : ∀ {l : LI}, Dg b l → ∀ i, l.getD i 0 = ((V b l / b ^ i % b : Nat) : Int)
  | [], _, i => by simp [V_nil]
  | x :: l, h, 0 => by
    have hx := h 0
    simp only [List.getD_cons_zero] at hx ⊢
    rw [Nat.pow_zero, Nat.div_one, V_cons, Nat.add_mul_mod_self_left, Nat.mod_eq_of_lt (by omega)]
    omega
  | x :: l, h, i + 1 => by
    have hx := h 0
    simp only [List.getD_cons_zero] at hx
    rw [List.getD_cons_succ, getD_eq hb h.tail i, Nat.pow_succ, Nat.mul_comm, ← Nat.div_div_eq_div_mul]
    rw [V_cons, Nat.add_mul_div_left _ _ (by omega), Nat.div_eq_of_lt (show x.toNat < b by omega), Nat.zero_add]
theorem list_ext {a c : LI} (hl : a.length = c.length) (h : ∀ i, a.getD i 0 = c.getD i 0) : a = c := by
  apply List.ext_getElem hl
  intro i h1 h2
  have := h i
  simp only [List.getD_eq_getElem?_getD, List.getElem?_eq_getElem h1, List.getElem?_eq_getElem h2, Option.getD_some] at this
  exact this
theorem V_inj {b : Nat} (hb : 2 ≤ b) {a c : LI} (ha : Dg b a) (hc : Dg b c) (hl : a.length = c.length) (h : V b a = V b c) : a = c :=
  list_ext hl fun i => by rw [getD_eq hb ha, getD_eq hb hc, h]
theorem getD_take {a : LI} {n j : Nat} : (a.take n).getD j 0 = if j < n then a.getD j 0 else 0 := by
  simp only [List.getD_eq_getElem?_getD, List.getElem?_take]
  split <;> simp
theorem Dg.take {b : Nat} (hb : 0 < b) {a : LI} (h : Dg b a) (n : Nat) : Dg b (a.take n) := by
  intro j; rw [getD_take]; split
  · exact h j
  · omega
/-- Without the noughts at the end. -/
theorem trim_eq {b : Nat} (hb : 2 ≤ b) {a : LI} (ha : Dg b a) {n : Nat} (hn : n ≤ a.length) (h0 : ∀ j, n ≤ j → a.getD j 0 = 0) (ht : n = 0 ∨ a.getD (n - 1) 0 ≠ 0) : a.take n = digs b (V b a) := by
  have hl : (a.take n).length = n := by simp [hn]
  have e : V b (a.take n) = V b a := by
    rw [← pre_ge (b := b) (a := a.take n) (i := a.length) (by omega)]
    exact pre_congr fun j hj => by
      rw [getD_take]; split
      · rfl
      · exact (h0 j (by omega)).symm
  rw [← e]
  refine (digs_V hb (ha.take (by omega) n) ?_).symm
  unfold Top
  rw [hl, getD_take]
  rcases ht with h | h
  · exact .inl h
  · by_cases hz : n = 0
    · exact .inl hz
    · exact .inr (by rw [if_pos (by omega)]; exact h)
theorem pre_zero_of {b : Nat} {a : LI} {i k : Nat} (hik : i ≤ k) (h : ∀ j, i ≤ j → a.getD j 0 = 0) : pre b a k = pre b a i := by
  obtain ⟨d, rfl⟩ := Nat.exists_eq_add_of_le hik
  clear hik
  induction d with
  | zero => rfl
  | succ d ih =>
    show pre b a (i + d) + (a.getD (i + d) 0).toNat * b ^ (i + d) = _
    rw [ih, h (i + d) (by omega)]; simp
theorem pre_mod {b : Nat} {a : LI} (h : Dg b a) (n : Nat) : pre b a n = V b a % b ^ n := by
  have key : ∀ d, pre b a (n + d) % b ^ n = pre b a n := by
    intro d
    induction d with
    | zero => exact Nat.mod_eq_of_lt (pre_lt h n)
    | succ d ih =>
      show (pre b a (n + d) + (a.getD (n + d) 0).toNat * b ^ (n + d)) % b ^ n = _
      rw [Nat.pow_add, ← Nat.mul_assoc, Nat.mul_comm _ (b ^ n), Nat.mul_assoc, Nat.add_mul_mod_self_left, ih]
  rw [← pre_ge (b := b) (a := a) (i := n + a.length) (by omega)]
  exact (key _).symm
/-- So many digits of a number. -/
def fx (b n v : Nat) : LI := (List.range n).map fun i => ((v / b ^ i % b : Nat) : Int)
theorem fx_len {b n v : Nat} : (fx b n v).length = n := by simp [fx]
theorem fx_getD {b n v i : Nat} : (fx b n v).getD i 0 = if i < n then ((v / b ^ i % b : Nat) : Int) else 0 := by
  unfold fx
  by_cases h : i < n
  · rw [if_pos h, List.getD_eq_getElem?_getD, List.getElem?_map, List.getElem?_range h]; rfl
  · rw [if_neg h, getD_big (by simp; omega)]
theorem Dg.fx {b n v : Nat} (hb : 0 < b) : Dg b (fx b n v) := by
  intro i
  rw [fx_getD]
  split
  · have := Nat.mod_lt (v / b ^ i) hb; omega
  · omega
theorem pre_fx {b n v : Nat} : ∀ {i}, i ≤ n → pre b (fx b n v) i = v % b ^ i
  | 0, _ => by simp [pre, Nat.mod_one]
  | i + 1, h => by
    rw [pre_succ, pre_fx (by omega), fx_getD, if_pos (by omega), Int.toNat_natCast, Nat.mod_pow_succ, Nat.mul_comm]
theorem V_fx {b n v : Nat} : V b (fx b n v) = v % b ^ n := by
  have := pre_fx (b := b) (n := n) (v := v) (Nat.le_refl n)
  unfold V; rw [fx_len]; exact this
theorem fx_of {b : Nat} (hb : 2 ≤ b) {w : LI} (h : Dg b w) {v : Nat} (e : V b w = v % b ^ w.length) : w = fx b w.length v :=
  V_inj hb h (Dg.fx (by omega)) fx_len.symm (by rw [V_fx, e])
/-- A window of a row. -/
theorem win_set {P w S : LI} {i : Nat} {v : Int} (hi : i < w.length) : (P ++ w ++ S).set (P.length + i) v = P ++ w.set i v ++ S := by
  rw [List.append_assoc, List.append_assoc, List.set_append_right _ _ (by omega), Nat.add_sub_cancel_left, List.set_append_left _ _ hi]
theorem win_getD {P w S : LI} {i : Nat} (hi : i < w.length) : (P ++ w ++ S).getD (P.length + i) 0 = w.getD i 0 := by
  rw [List.append_assoc, List.getD_eq_getElem?_getD, List.getElem?_append_right (by omega), Nat.add_sub_cancel_left, List.getElem?_append_left hi, ← List.getD_eq_getElem?_getD]
/-- The window, and the row with another one. -/
def win (xs : LI) (lo len : Int) : LI := (xs.drop lo.toNat).take len.toNat
def putW (xs : LI) (lo len : Int) (w : LI) : LI := xs.take lo.toNat ++ w ++ xs.drop (lo.toNat + len.toNat)
theorem win_len {xs : LI} {lo len : Int} (h : 0 ≤ lo ∧ 0 ≤ len ∧ lo + len ≤ xs.length) : (win xs lo len).length = len.toNat := by
  unfold win; simp; omega
theorem put_win {xs : LI} {lo len : Int} : putW xs lo len (win xs lo len) = xs := by
  unfold putW win
  rw [List.append_assoc, ← List.drop_drop, List.take_append_drop, List.take_append_drop]
theorem putW_len {xs : LI} {lo len : Int} (h : 0 ≤ lo ∧ 0 ≤ len ∧ lo + len ≤ xs.length) {w : LI} (hw : w.length = len.toNat) : (putW xs lo len w).length = xs.length := by
  unfold putW; simp; omega
theorem take_len {xs : LI} {lo len : Int} (h : 0 ≤ lo ∧ 0 ≤ len ∧ lo + len ≤ xs.length) : (xs.take lo.toNat).length = lo.toNat := by simp; omega
theorem putW_set {xs : LI} {lo len : Int} (h : 0 ≤ lo ∧ 0 ≤ len ∧ lo + len ≤ xs.length) {w : LI} {i : Nat} {v : Int} (hi : i < w.length) : (putW xs lo len w).set (lo.toNat + i) v = putW xs lo len (w.set i v) := by
  unfold putW
  have := win_set (P := xs.take lo.toNat) (w := w) (S := xs.drop (lo.toNat + len.toNat)) (v := v) hi
  rwa [take_len h] at this
theorem putW_getD {xs : LI} {lo len : Int} (h : 0 ≤ lo ∧ 0 ≤ len ∧ lo + len ≤ xs.length) {w : LI} {i : Nat} (hi : i < w.length) : (putW xs lo len w).getD (lo.toNat + i) 0 = w.getD i 0 := by
  unfold putW
  have := win_getD (P := xs.take lo.toNat) (w := w) (S := xs.drop (lo.toNat + len.toNat)) hi
  rwa [take_len h] at this
theorem Dg.win {b : Nat} {xs : LI} (hb : 0 < b) (h : Dg b xs) (lo len : Int) : Dg b (win xs lo len) := Dg.of_mem hb fun x hx => h.mem x (List.mem_of_mem_drop (List.mem_of_mem_take hx))
theorem win_all {a : LI} : win a 0 (a.length : Int) = a := by unfold win; simp
theorem putW_all {a w : LI} : putW a 0 (a.length : Int) w = w := by unfold putW; simp
end Go.Proofs.SX

namespace Go.Proofs.SX
open Go
set_option linter.unusedVariables false
set_option linter.unusedSimpArgs false
theorem VRL.nil {R : RC} {k k' : IntKind} {l l' : List AV} {vs : List Value} (hl : ∀ vs, VRL R l vs → VRL R l' vs) (h : VRL R (.sli k [] :: l) vs) : VRL R (.sli k' [] :: l') vs := by
  obtain ⟨v, vs', e, ⟨a, cap, h1, h2, h3, _, _⟩, h5⟩ := h
  exact ⟨v, vs', e, ⟨a, cap, h1, h2, h3, fun x hx => (by cases hx), fun hx => absurd rfl hx⟩, hl _ h5⟩
theorem FCall.to {P : Program} {f : FuncId} {args : List AV} {r r' : AV} (hr : ∀ R v, VR R r v → VR R r' v) (h : FCall P f args r) : FCall P f args r' := by
  intro own w vs h1 h2
  refine CallsX.mono (h own w vs h1 h2) ?_
  rintro e w' ⟨v, h3, h4, h5⟩
  exact ⟨v, h3, hr _ _ h4, h5⟩
theorem FCall.tupTo {P : Program} {f : FuncId} {args : List AV} {l l' : List AV} (hr : ∀ R vs, VRL R l vs → VRL R l' vs) (h : FCall P f args (.tup l)) : FCall P f args (.tup l') := by
  refine h.to ?_
  rintro R v ⟨vs, h1, h2⟩
  exact ⟨vs, h1, hr _ _ h2⟩
/-- Nothing is nothing of any kind. -/
theorem FCall.nil1 {P : Program} {f : FuncId} {args : List AV} {k k' : IntKind} (h : FCall P f args (.sli k [])) : FCall P f args (.sli k' []) := by
  refine h.to ?_
  rintro R v ⟨a, cap, h1, h2, h3, _, _⟩
  exact ⟨a, cap, h1, h2, h3, fun x hx => (by cases hx), fun hx => absurd rfl hx⟩
theorem FCall.nil2 {P : Program} {f : FuncId} {args l : List AV} {k k' : IntKind} (h : FCall P f args (.tup (.sli k [] :: l))) : FCall P f args (.tup (.sli k' [] :: l)) := h.tupTo fun _ _ h => h.nil fun _ h => h
theorem FCall.nil3 {P : Program} {f : FuncId} {args l : List AV} {k k' q q' : IntKind} (h : FCall P f args (.tup (.sli k [] :: .sli q [] :: l))) : FCall P f args (.tup (.sli k' [] :: .sli q' [] :: l)) := h.tupTo fun _ _ h => h.nil fun _ h => h.nil fun _ h => h
theorem rgl32 {a : LI} (h : RgL .u32 a) : Dg (4294967296 : Nat) a := Dg.of_mem (by decide) fun x hx => by
  have := (rg_iff .u32 x).1 (h x hx)
  simp [IntKind.min, IntKind.max, IntKind.signed, IntKind.bits] at this
  omega
theorem nm32 {a : LI} (h : Nm .u32 a) : Dg (4294967296 : Nat) a := rgl32 h.1
theorem MCall.known {P : Program} {f : FuncId} {k : IntKind} {xs xs' : LI} {lo len : Int} {args : List AV} {r : AV} (h : (0 ≤ lo ∧ 0 ≤ len ∧ lo + len ≤ xs.length) → len ≤ 9223372036854775807 → RgL k xs → MCall P f k xs lo len args r xs') : MCall P f k xs lo len args r xs' := by
  intro b w v0 vs rest ty h1 h2 h3 h4
  have h5 := h3
  obtain ⟨lo', len', cap, e1, e2, _, _, _, e3, e4⟩ := h5
  exact h ⟨by omega, by omega, by omega⟩ (by omega) h2 b w v0 vs rest ty h1 h2 h3 h4
theorem rg32 {x : Int} : Rg .u32 x ↔ 0 ≤ x ∧ x < 4294967296 := by
  rw [rg_iff]; simp [IntKind.min, IntKind.max, IntKind.bits, IntKind.signed]; omega
theorem rgi {x : Int} : Rg .i64 x ↔ -9223372036854775808 ≤ x ∧ x < 9223372036854775808 := by
  rw [rg_iff]; simp [IntKind.min, IntKind.max, IntKind.bits, IntKind.signed]; omega
theorem nm64 {a : LI} (h : Nm .u64 a) : Dg 18446744073709551616 a := Dg.of_mem (by decide) fun x hx => by
  have := rg64.1 (h.1 x hx)
  omega
theorem nm8 {a : LI} (h : Nm .u8 a) : Dg 256 a := Dg.of_mem (by decide) fun x hx => by
  have := rg8.1 (h.1 x hx)
  omega
theorem wi (x : Int) (h : -9223372036854775808 ≤ x ∧ x < 9223372036854775808) : IntKind.wrap .i64 x = x := wrap_i64' x h
theorem wrap_u32' (x : Int) : IntKind.wrap .u32 x = x % 4294967296 := by
  simp [IntKind.wrap, IntKind.signed, IntKind.bits]
theorem s_subL (xs : LI) (lo hi : Int) : stdAr.sub xs lo hi = (xs.drop lo.toNat).take (hi.toNat - lo.toNat) := rfl
theorem s_diff (x y : Int) : stdAr.diff x y = x - y := rfl
theorem s_beq (a b : Bool) : stdAr.beq a b = (a == b) := rfl
theorem s_max (x y : Int) : stdAr.max x y = if y > x then y else x := rfl
theorem s_min (x y : Int) : stdAr.min x y = if y < x then y else x := rfl
theorem s_zerosI (x : Int) : stdAr.zerosI x = List.replicate x.toNat 0 := rfl
theorem s_cat (x y : LI) : stdAr.cat x y = x ++ y := rfl
/-- The arithmetic laid open. -/
theorem s_quo32 {x y : Int} (hx : 0 ≤ x ∧ x < 4294967296) (hy : 0 < y) : stdAr.bin .quo .u32 x y = x / y := by
  show IntKind.wrap .u32 (x.tdiv y) = _
  rw [Int.tdiv_eq_ediv_of_nonneg hx.1, wrap_u32']
  have h1 : 0 ≤ x / y := Int.ediv_nonneg hx.1 (by omega)
  have h2 : x / y ≤ x := Int.ediv_le_self _ hx.1
  omega
theorem s_rem32 {x y : Int} (hx : 0 ≤ x ∧ x < 4294967296) (hy : 0 < y) : stdAr.bin .rem .u32 x y = x % y := by
  show IntKind.wrap .u32 (x.tmod y) = _
  rw [Int.tmod_eq_emod_of_nonneg hx.1, wrap_u32']
  have h1 : 0 ≤ x % y := Int.emod_nonneg _ (by omega)
  have h2 : x % y ≤ x := by
    have := Int.mul_ediv_add_emod x y
    have h3 : 0 ≤ y * (x / y) := Int.mul_nonneg (by omega) (Int.ediv_nonneg hx.1 (by omega))
    omega
  omega
theorem s_quo64 {x y : Int} (hx : 0 ≤ x ∧ x < 18446744073709551616) (hy : 0 < y) : stdAr.bin .quo .u64 x y = x / y := by
  show IntKind.wrap .u64 (x.tdiv y) = _
  rw [Int.tdiv_eq_ediv_of_nonneg hx.1, wrap_u64']
  have h1 : 0 ≤ x / y := Int.ediv_nonneg hx.1 (by omega)
  have h2 : x / y ≤ x := Int.ediv_le_self _ hx.1
  omega
theorem s_rem64 {x y : Int} (hx : 0 ≤ x ∧ x < 18446744073709551616) (hy : 0 < y) : stdAr.bin .rem .u64 x y = x % y := by
  show IntKind.wrap .u64 (x.tmod y) = _
  rw [Int.tmod_eq_emod_of_nonneg hx.1, wrap_u64']
  have h1 : 0 ≤ x % y := Int.emod_nonneg _ (by omega)
  have h2 : x % y ≤ x := by
    have := Int.mul_ediv_add_emod x y
    have h3 : 0 ≤ y * (x / y) := Int.mul_nonneg (by omega) (Int.ediv_nonneg hx.1 (by omega))
    omega
  omega
theorem s_or_comm (x y : Int) : stdAr.bin .or .u64 x y = stdAr.bin .or .u64 y x := by
  show IntKind.wrap .u64 ((BitVec.ofInt 64 x ||| BitVec.ofInt 64 y).toNat : Int) = IntKind.wrap .u64 ((BitVec.ofInt 64 y ||| BitVec.ofInt 64 x).toNat : Int)
  rw [BitVec.or_comm]
theorem s_or32 {x y : Int} (hx : 0 ≤ x ∧ x < 4294967296) (hy : 0 ≤ y ∧ y < 4294967296) : stdAr.bin .or .u64 (x * 4294967296) y = x * 4294967296 + y := by
  rw [s_or_comm]
  have := s_or_disj 32 (by decide) (x := y) (y := x) (by omega) (by omega)
  rw [show (2 : Int) ^ 32 = 4294967296 by decide] at this
  rw [this]; omega
theorem s_shl32 {x : Int} (h : 0 ≤ x ∧ x < 4294967296) : stdAr.bin .shl .u64 x 32 = x * 4294967296 := by
  rw [s_shl (y := 32) 32 (by decide) rfl, show (2 : Int) ^ 32 = 4294967296 by decide]; omega
theorem s_shr32 {x : Int} (h : 0 ≤ x ∧ x < 18446744073709551616) : stdAr.bin .shr .u64 x 32 = x / 4294967296 := s_shr 32 (by decide) h rfl
theorem s_sub_all (xs : LI) : stdAr.sub xs 0 (0 + (xs.length : Int)) = xs := by show (xs.drop 0).take _ = xs; simp
theorem s_sub1 (x : Int) : stdAr.sub [x] 0 (0 + 1) = [x] := rfl
theorem s_sub2 (x y : Int) : stdAr.sub [x, y] 0 (0 + 2) = [x, y] := rfl
theorem s_sub4 (x y z u : Int) : stdAr.sub [x, y, z, u] 0 (0 + 4) = [x, y, z, u] := rfl
theorem nc2 : ((2 : Nat) : Int) = 2 := rfl
end Go.Proofs.SX

namespace Go.Proofs.SX
open Go Go.RowKit
set_option linter.unusedVariables false
set_option linter.unusedSimpArgs false
theorem bv_wrap (b : BitVec 32) : BitVec.ofInt 32 (IntKind.wrap .u32 (b.toNat : Int)) = b := by
  rw [wrap_u32']
  have := b.isLt
  rw [show ((b.toNat : Int) % 4294967296) = (b.toNat : Int) by omega]
  simp
theorem wrap_bv (b : BitVec 32) : IntKind.wrap .u32 (b.toNat : Int) = (b.toNat : Int) := by
  rw [wrap_u32']
  have := b.isLt
  omega
theorem bv_nat {x : Int} (h : 0 ≤ x ∧ x < 4294967296) : ((BitVec.ofInt 32 x).toNat : Int) = x := by
  obtain ⟨X, rfl⟩ := Int.eq_ofNat_of_zero_le h.1
  rw [ofInt_nat 32 _ (by omega)]
theorem bv_inv (x : Int) : stdAr.inv .u32 x = ((BitVec.ofInt 32 4294967295 ^^^ BitVec.ofInt 32 x).toNat : Int) := wrap_bv _
theorem bv_and (x y : Int) : stdAr.bin .and .u32 x y = ((BitVec.ofInt 32 x &&& BitVec.ofInt 32 y).toNat : Int) := wrap_bv _
theorem bv_or (x y : Int) : stdAr.bin .or .u32 x y = ((BitVec.ofInt 32 x ||| BitVec.ofInt 32 y).toNat : Int) := wrap_bv _
theorem bv_xor (x y : Int) : stdAr.bin .xor .u32 x y = ((BitVec.ofInt 32 x ^^^ BitVec.ofInt 32 y).toNat : Int) := wrap_bv _
theorem bv_of (b : BitVec 32) : BitVec.ofInt 32 (b.toNat : Int) = b := by simp
theorem s_shr32u (n : Nat) (hn : n ≤ 32) {x y : Int} (hx : 0 ≤ x ∧ x < 4294967296) (hy : y = n) : stdAr.bin .shr .u32 x y = x / 2 ^ n := by
  subst hy
  show IntKind.wrap .u32 (x.fdiv (2 ^ (min (n : Int).toNat 32))) = _
  have hmin : min (n : Int).toNat 32 = n := by simp; omega
  rw [hmin, wrap_u32', Int.fdiv_eq_ediv_of_nonneg _ (by exact Int.pow_nonneg (by decide))]
  have h1 : 0 ≤ x / 2 ^ n := Int.ediv_nonneg hx.1 (by exact Int.pow_nonneg (by decide))
  have h2 : x / 2 ^ n ≤ x := Int.ediv_le_self _ hx.1
  omega
theorem msb_top (b : BitVec 32) : (b.toNat : Int) / 2147483648 = if b.msb then 1 else 0 := by
  have h := BitVec.msb_eq_decide b
  have := b.isLt
  rw [h]
  by_cases c : 2 ^ (32 - 1) ≤ b.toNat
  · rw [decide_eq_true c, if_pos rfl]; simp at c; omega
  · rw [decide_eq_false c, if_neg (by simp)]; simp at c; omega
theorem msb_of {x : Int} (h : 0 ≤ x ∧ x < 4294967296) : (BitVec.ofInt 32 x).msb = decide (2147483648 ≤ x) := by
  rw [BitVec.msb_eq_decide]
  have := bv_nat h
  by_cases c : 2147483648 ≤ x
  · rw [decide_eq_true c]; simp only [decide_eq_true_eq]; omega
  · rw [decide_eq_false c]; simp only [decide_eq_false_iff_not]; omega
def sb32 (x y c : Int) : Int := (x - y - c) % 4294967296
def bo32 (x y c : Int) : Int := if x < y + c then 1 else 0
def ad32 (x y c : Int) : Int := (x + y + c) % 4294967296
def ca32 (x y c : Int) : Int := (x + y + c) / 4294967296
theorem borrow32 {x y c : Int} (hx : 0 ≤ x ∧ x < 4294967296) (hy : 0 ≤ y ∧ y < 4294967296) (hc : 0 ≤ c ∧ c ≤ 1) :
    stdAr.bin .shr .u32 (stdAr.bin .or .u32 (stdAr.bin .and .u32 (stdAr.inv .u32 x) y) (stdAr.bin .and .u32 (stdAr.inv .u32 (stdAr.bin .xor .u32 x y)) (sb32 x y c))) 31 = bo32 x y c := by
  have hd : 0 ≤ sb32 x y c ∧ sb32 x y c < 4294967296 := by unfold sb32; omega
  simp only [bv_inv, bv_and, bv_or, bv_xor, bv_of]
  rw [s_shr32u (y := 31) 31 (by decide) (by constructor <;> omega) rfl]
  rw [show (2 : Int) ^ 31 = 2147483648 by decide, msb_top]
  simp only [BitVec.msb_or, BitVec.msb_and, BitVec.msb_xor, msb_of hx, msb_of hy, msb_of hd, show (BitVec.ofInt 32 4294967295).msb = true by decide]
  unfold bo32
  by_cases c1 : 2147483648 ≤ x <;> by_cases c2 : 2147483648 ≤ y <;> by_cases c3 : 2147483648 ≤ sb32 x y c <;> simp only [c1, c2, c3, decide_true, decide_false, Bool.xor_true, Bool.not_true, Bool.and_true, Bool.true_and, Bool.false_and, Bool.and_false, Bool.or_false, Bool.false_or, Bool.or_true, Bool.true_or, Bool.xor_false, Bool.false_xor, Bool.true_xor, Bool.not_false, if_true, if_false, reduceCtorEq, Bool.false_eq_true] <;> unfold sb32 at c3 <;> split <;> omega
theorem dig_in {x p m r s : Nat} (h : r + s ≤ m) : x / 2 ^ p % 2 ^ m / 2 ^ r % 2 ^ s = x / 2 ^ (p + r) % 2 ^ s := by
  obtain ⟨d, rfl⟩ := Nat.exists_eq_add_of_le h
  rw [show r + s + d = r + (s + d) by omega, Nat.pow_add 2 r, Nat.mod_mul_right_div_self, Nat.pow_add 2 s, Nat.mod_mul_right_mod, Nat.div_div_eq_div_mul, ← Nat.pow_add]
theorem s_and1 {x : Int} (h : 0 ≤ x ∧ x < 4294967296) : stdAr.bin .and .u32 x 1 = x % 2 := by
  obtain ⟨X, rfl⟩ := Int.eq_ofNat_of_zero_le h.1
  rw [bv_and, BitVec.toNat_and, ofInt_nat 32 _ (by omega), show (BitVec.ofInt 32 1).toNat = 1 by decide, Nat.and_one_is_mod]
  omega
theorem s_oru (n : Nat) (hn : n ≤ 32) {x y : Int} (hx : 0 ≤ x ∧ x < 2 ^ n) (hy : 0 ≤ y ∧ y * 2 ^ n < 4294967296) : stdAr.bin .or .u32 (y * 2 ^ n) x = y * 2 ^ n + x := by
  obtain ⟨X, rfl⟩ := Int.eq_ofNat_of_zero_le hx.1
  obtain ⟨Y, rfl⟩ := Int.eq_ofNat_of_zero_le hy.1
  have e : (Y : Int) * 2 ^ n = ((Y * 2 ^ n : Nat) : Int) := by simp
  rw [e] at hy ⊢
  have h2 : (2 : Nat) ^ n ≤ 2 ^ 32 := Nat.pow_le_pow_right (by omega) hn
  have hX : X < 2 ^ n := by
    have := hx.2
    have e2 : (2 : Int) ^ n = ((2 ^ n : Nat) : Int) := by simp
    rw [e2] at this; omega
  have hlt : Y * 2 ^ n < 2 ^ 32 := by omega
  rw [bv_or, BitVec.toNat_or, ofInt_nat 32 _ hlt, ofInt_nat 32 _ (by omega), Nat.mul_comm, ← Nat.two_pow_add_eq_or_of_lt hX, Nat.mul_comm]
  simp
theorem s_shl32u (n : Nat) (hn : n ≤ 32) {x y : Int} (hy : y = n) : stdAr.bin .shl .u32 x y = x * 2 ^ n % 4294967296 := by
  subst hy
  show IntKind.wrap .u32 (x * 2 ^ (min (n : Int).toNat 32)) = _
  have hmin : min (n : Int).toNat 32 = n := by simp; omega
  rw [hmin, wrap_u32']
end Go.Proofs.SX

namespace Go.Proofs.SX
open Go Go.RowKit
set_option linter.unusedVariables false
set_option linter.unusedSimpArgs false
def PostN (r : Option (XE × XR)) (hp : List Blk) (N R : List Blk → Prop) : Prop :=
  match r with
  | some (.normal, r) => Obs r.ob ∧ subL hp r.s.hp ∧ N r.s.hp
  | some (.ret, r) => Obs r.ob ∧ subL hp r.s.hp ∧ R r.s.hp
  | _ => False
theorem RoundOk.go {c : Cx} {body : Code} {fr : List AV} {hp : List Blk} {N R : List Blk → Prop} (n : Nat) (ds : List Bool) (h : PostN (xcode c n body ⟨⟨fr, hp⟩, ds, []⟩) hp N R) : RoundOk c body fr hp N R := by
  refine ⟨n, ds, ?_⟩
  revert h
  generalize xcode c n body ⟨⟨fr, hp⟩, ds, []⟩ = r
  intro h
  rcases r with _ | ⟨x, r⟩
  · exact h
  · cases x with
    | normal => exact h
    | ret => exact h
    | exit id => exact h
theorem getElem_downL {n k : Nat} (h : k < n) : (downL n)[k]? = some (n - 1 - k) := by
  unfold downL
  rw [List.getElem?_reverse (by rw [List.length_range]; omega), List.length_range, List.getElem?_range (by omega)]
theorem len_downL (n : Nat) : (downL n).length = n := by simp [downL]
theorem mem_downL {n j : Nat} : j ∈ downL n ↔ j < n := by simp [downL]
/-- What came ahead of i are those above it. -/
theorem down_pre {n i : Nat} {l : List Nat} (h : l ++ [i] <+: downL n) : i < n ∧ ∀ j, i < j → j < n → j ∈ l := by
  obtain ⟨t, ht⟩ := h
  have hl := congrArg List.length ht
  simp [len_downL] at hl
  have hi : (downL n)[l.length]? = some i := by rw [← ht]; simp
  rw [getElem_downL (by omega)] at hi
  have hi := Option.some.inj hi
  refine ⟨by omega, fun j h1 h2 => ?_⟩
  have hj : (downL n)[n - 1 - j]? = some j := by rw [getElem_downL (by omega)]; congr 1; omega
  rw [← ht, List.append_assoc, List.getElem?_append_left (by omega)] at hj
  exact List.mem_of_getElem? hj
theorem down_at {n i : Nat} {l : List Nat} (h : l ++ [i] <+: downL n) : i = n - 1 - l.length ∧ l.length < n ∧ l <+: downL n := by
  have h0 := h
  obtain ⟨t, ht⟩ := h
  have hl := congrArg List.length ht
  simp [len_downL] at hl
  have hi : (downL n)[l.length]? = some i := by rw [← ht]; simp
  rw [getElem_downL (by omega)] at hi
  have hi := Option.some.inj hi
  exact ⟨by omega, by omega, (List.prefix_append l [i]).trans h0⟩
end Go.Proofs.SX

namespace Go.Proofs.SX
open Go Go.Proofs
set_option maxRecDepth 100000
def eTys : List (TypeId × Sh) := [(23, .sl .u32), (22, .sl .u32), (53, .sl .u64), (34, .sl .u8), (3, .int .i64), (25, .int .i64), (49, .int .u64), (61, .int .u64), (42, .int .u32), (5, .int .u8), (4, .bool), (9, .str)]
theorem eTys_ok : ∀ t, TyOk Try.prog t (tyTab eTys t) := tys_ok (by kernel_rfl)
theorem ok_of {l : List (FuncId × (List AV → Option (AV × Ob)))} {A : Ar} (hA : A = stdAr) (hG : allHold Try.prog l) : COk Try.prog ⟨false, A, tyTab eTys, cTab l⟩ := ⟨by kernel_rfl, hA, eTys_ok, cs_ok hG⟩
theorem ok_con {l : List (FuncId × Con)} {na : Bool} {A : Ar} (hA : A = stdAr) (hG : allCon Try.prog l) : COk Try.prog ⟨na, A, tyTab eTys, conTab l⟩ := ⟨by kernel_rfl, hA, eTys_ok, con_ok hG⟩
end Go.Proofs.SX
