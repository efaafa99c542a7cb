/- The walk: the document's digits. Conditions: none. -/
import Derived.Test.YtmaegpgepcjcbaaNa3
set_option linter.all false
namespace Go.Proofs.SX
open Go Go.Proofs
set_option maxRecDepth 100000
set_option linter.unusedVariables false
set_option linter.unusedSimpArgs false
/-- A number's digits. -/
def D (n : Nat) : LI := digs (65536 : Nat) n
def dgD (a : LI) : LI := D (V (4294967296 : Nat) a)
theorem getD_app {x y : LI} {j : Nat} : (x ++ y).getD j 0 = if j < x.length then x.getD j 0 else y.getD (j - x.length) 0 := by
  simp only [List.getD_eq_getElem?_getD]
  split
  · rw [List.getElem?_append_left (by assumption)]
  · rw [List.getElem?_append_right (by omega)]
theorem V_app {b : Nat} {x y : LI} : V b (x ++ y) = V b x + V b y * b ^ x.length := by
  induction x with
  | nil => simp [V_nil]
  | cons z x ih =>
    rw [List.cons_append, V_cons, V_cons, ih, List.length_cons, Nat.pow_succ, Nat.mul_add, Nat.mul_left_comm b (V b y), Nat.mul_comm b (b ^ x.length)]
    omega
theorem Dg.app {b : Nat} (hb : 0 < b) {x y : LI} (hx : Dg b x) (hy : Dg b y) : Dg b (x ++ y) := Dg.of_mem hb fun z hz => (List.mem_append.1 hz).elim (hx.mem z) (hy.mem z)
theorem w_digits (A : Ar) (hA : A = stdAr) (tr : LI → LI) (htr : tr = trD) (hG : allHold Try.prog [(69, gD_D tr)]) (a : LI) (ha : Nm .u32 a) (la : a.length ≤ 1048576) :
    FCall Try.prog 47 [.sli .u32 a] (.sli .u64 (dgD a)) := by
  have k := ok_of hA hG
  have da := nm32 ha
  refine FCall.of_body k (fn := Try.f47) rfl rfl rfl rfl (fun _ => ?_)
  (refine AWP.seq (AWP.go k 100 [] ?_); (conv => { arg 1; cbv }); refine ⟨?_, ?_⟩; rotate_left; (try dsimp only [sthen, sblock]); rotate_right; (try exact obs_nil))
  (refine AWP.seq (AWP.go k 100 [] ?_); (conv => { arg 1; cbv }); refine ⟨?_, ?_⟩; rotate_left; (try dsimp only [sthen, sblock]); rotate_right; (try exact obs_nil))
  refine AWP.seq ?_
  (refine AWP.seq (AWP.go k 100 [] ?_); (conv => { arg 1; cbv }); refine ⟨?_, ?_⟩; rotate_left; (try dsimp only [sthen, sblock]); rotate_right; (try exact obs_nil))
  refine AWP.block ?_
  refine AWP.loopQ (fun x : Nat × LI => ⟨mkF [(0, .sli .u32 a), (3, .osl 0 0 (A.len x.2)), (4, .int .i64 x.1)] 29 0, [.row .u64 x.2]⟩)
    (fun x => x.1 ≤ a.length ∧ x.2.length = 2 * x.1 ∧ Dg (65536 : Nat) x.2 ∧ V (65536 : Nat) x.2 = pre (4294967296 : Nat) a x.1) (fun x => a.length - x.1) (0, []) ?_ ?_ ?_
  · subst_vars; (refine ⟨?_, ?_, rfl⟩ <;> repeat' (first | exact .nil | exact .any _ | exact .gone _ | exact .same _ | exact .lit _ _ | exact .nil _ | refine .cons ?_ ?_ | exact AvLe.int_eq (by first | rfl | (simp only [Int.ofNat_eq_natCast]; omega) | omega) | exact AvLe.lit_eq (by first | rfl | (simp only [Int.ofNat_eq_natCast]; omega) | omega) | exact AvLe.osl_eq (by first | rfl | (simp only [Int.ofNat_eq_natCast]; omega) | omega) (by first | rfl | (simp only [Int.ofNat_eq_natCast]; omega) | omega | (simp; done) | (simp; omega)) | refine BlLe.row_eq ?_))
  · exact ⟨Nat.zero_le _, rfl, Dg.nil (by decide), rfl⟩
  rintro ⟨i, out⟩ ⟨h1, h2, h3, h4⟩
  dsimp only at h1 h2 h3 h4
  have di := da i
  by_cases d : i < a.length
  · (refine AWP.seq (AWP.go k 100 [true] ?_); (conv => { arg 1; cbv }); refine ⟨?_, ?_⟩; rotate_left; (try dsimp only [sthen, sblock]); rotate_right; (try exact obs_nil))
    · (subst_vars; simp (disch := omega) only [obs_nil_iff, obs_cons_iff, s_ofNat, s_plus, s_len, s_rd, s_set, s_eql, s_neq, s_lss, s_leq, s_gtr, s_geq, s_not, s_and, s_beq, s_add, s_sub, s_mul, s_wrap, s_diff, s_max, s_min, s_quo, s_rem, s_quo32, s_rem32, s_quo64, s_rem64, s_zerosI, s_cat, wi, wrap_u32', wrap_u64', wrap_u8', decide_eq_true_eq, decide_eq_false_iff_not, beq_iff_eq, beq_eq_false_iff_ne, bne_iff_ne, bne_eq_false_iff_eq, Bool.not_eq_true', Bool.not_eq_false', ne_eq, nc0, nc1, nc4, nc8, Int.toNat_natCast, Int.cast_ofNat_Int, Int.ofNat_eq_natCast, and_true, true_and, s_subL, s_shr32, s_shl32, s_or32]; (repeat' apply And.intro) <;> first | trivial | omega)
    (refine AWP.seq (AWP.go k 100 [] ?_); (conv => { arg 1; cbv }); refine ⟨?_, ?_⟩; rotate_left; (try dsimp only [sthen, sblock]); rotate_right; (try exact obs_nil))
    · subst_vars; ((simp only [s_plus, s_len, s_ofNat, nc0, nc1, nc2, nc4, s_sub_all, s_sub1, s_sub2, s_sub4, s_cat]) <;> (try simp (disch := omega) only [Int.emod_eq_of_lt, List.length_cons, List.length_nil, List.length_append, obs_nil_iff, obs_cons_iff, s_ofNat, s_plus, s_len, s_rd, s_set, s_eql, s_neq, s_lss, s_leq, s_gtr, s_geq, s_not, s_and, s_beq, s_add, s_sub, s_mul, s_wrap, s_diff, s_max, s_min, s_quo, s_rem, s_quo32, s_rem32, s_quo64, s_rem64, s_zerosI, s_cat, wi, wrap_u32', wrap_u64', wrap_u8', decide_eq_true_eq, decide_eq_false_iff_not, beq_iff_eq, beq_eq_false_iff_ne, bne_iff_ne, bne_eq_false_iff_eq, Bool.not_eq_true', Bool.not_eq_false', ne_eq, nc0, nc1, nc4, nc8, Int.toNat_natCast, Int.cast_ofNat_Int, Int.ofNat_eq_natCast, and_true, true_and, s_subL, s_shr32, s_shl32, s_or32])); omega
    (refine AWP.go k 100 [] ?_; (conv => { arg 1; cbv }); refine ⟨?_, ?_⟩; rotate_left; (try dsimp only [sthen, sblock]); rotate_right; (try exact obs_nil))
    refine handedR.mk (i + 1, out ++ [a.getD i 0 % 65536, a.getD i 0 / 65536]) [2] [.gone, .gone, .row .u64 (out ++ [a.getD i 0 % 65536, a.getD i 0 / 65536])] ?_ ⟨rfl, ⟨.inr rfl, trivial⟩, rfl⟩ ?_ ?_
    · subst_vars
      ((simp only [s_plus, s_len, s_ofNat, nc0, nc1, nc2, nc4, s_sub_all, s_sub1, s_sub2, s_sub4, s_cat]) <;> (try simp (disch := omega) only [Int.emod_eq_of_lt, List.length_cons, List.length_nil, List.length_append, obs_nil_iff, obs_cons_iff, s_ofNat, s_plus, s_len, s_rd, s_set, s_eql, s_neq, s_lss, s_leq, s_gtr, s_geq, s_not, s_and, s_beq, s_add, s_sub, s_mul, s_wrap, s_diff, s_max, s_min, s_quo, s_rem, s_quo32, s_rem32, s_quo64, s_rem64, s_zerosI, s_cat, wi, wrap_u32', wrap_u64', wrap_u8', decide_eq_true_eq, decide_eq_false_iff_not, beq_iff_eq, beq_eq_false_iff_ne, bne_iff_ne, bne_eq_false_iff_eq, Bool.not_eq_true', Bool.not_eq_false', ne_eq, nc0, nc1, nc4, nc8, Int.toNat_natCast, Int.cast_ofNat_Int, Int.ofNat_eq_natCast, and_true, true_and, s_subL, s_shr32, s_shl32, s_or32]))
      (refine ⟨?_, ?_, rfl⟩ <;> repeat' (first | exact .nil | exact .any _ | exact .gone _ | exact .same _ | exact .lit _ _ | exact .nil _ | refine .cons ?_ ?_ | exact AvLe.int_eq (by first | rfl | (simp only [Int.ofNat_eq_natCast]; omega) | omega) | exact AvLe.lit_eq (by first | rfl | (simp only [Int.ofNat_eq_natCast]; omega) | omega) | exact AvLe.osl_eq (by first | rfl | (simp only [Int.ofNat_eq_natCast]; omega) | omega) (by first | rfl | (simp only [Int.ofNat_eq_natCast]; omega) | omega | (simp; done) | (simp; omega)) | refine BlLe.row_eq ?_))
    · dsimp only
      refine ⟨by omega, by simp; omega, h3.app (by decide) (Dg.cons ⟨by omega, by omega⟩ (Dg.cons ⟨by omega, by omega⟩ (Dg.nil (by decide)))), ?_⟩
      rw [V_app, h4, pre_succ, h2, V_cons, V_cons, V_nil, Nat.pow_mul]
      congr 2
      omega
    · dsimp only; omega
  · (refine AWP.seq (AWP.go k 100 [false] ?_); (conv => { arg 1; cbv }); refine ⟨?_, ?_⟩; rotate_left; (try dsimp only [sthen, sblock]); rotate_right; (try exact obs_nil))
    · (subst_vars; simp (disch := omega) only [obs_nil_iff, obs_cons_iff, s_ofNat, s_plus, s_len, s_rd, s_set, s_eql, s_neq, s_lss, s_leq, s_gtr, s_geq, s_not, s_and, s_beq, s_add, s_sub, s_mul, s_wrap, s_diff, s_max, s_min, s_quo, s_rem, s_quo32, s_rem32, s_quo64, s_rem64, s_zerosI, s_cat, wi, wrap_u32', wrap_u64', wrap_u8', decide_eq_true_eq, decide_eq_false_iff_not, beq_iff_eq, beq_eq_false_iff_ne, bne_iff_ne, bne_eq_false_iff_eq, Bool.not_eq_true', Bool.not_eq_false', ne_eq, nc0, nc1, nc4, nc8, Int.toNat_natCast, Int.cast_ofNat_Int, Int.ofNat_eq_natCast, and_true, true_and, s_subL, s_shr32, s_shl32, s_or32]; (repeat' apply And.intro) <;> first | trivial | omega)
    (dsimp only [handed, handedR, sblock, sthen]; rw [if_pos rfl])
    have hi : i = a.length := by omega
    subst hi
    (refine AWP.seq (AWP.go k 100 [] ?_); (conv => { arg 1; cbv }); refine ⟨?_, ?_⟩; rotate_left; (try dsimp only [sthen, sblock]); rotate_right; (try exact obs_nil))
    (refine AWP.go k 100 [] ?_; (conv => { arg 1; cbv }); refine ⟨?_, ?_⟩; rotate_left; (try dsimp only [sthen, sblock]); rotate_right; (try exact obs_nil))
    (refine ⟨fun id => by simp, ?_⟩; conv => { lhs; cbv })
    subst_vars
    simp (disch := omega) only [obs_nil_iff, obs_cons_iff, s_ofNat, s_plus, s_len, s_rd, s_set, s_eql, s_neq, s_lss, s_leq, s_gtr, s_geq, s_not, s_and, s_beq, s_add, s_sub, s_mul, s_wrap, s_diff, s_max, s_min, s_quo, s_rem, s_quo32, s_rem32, s_quo64, s_rem64, s_zerosI, s_cat, wi, wrap_u32', wrap_u64', wrap_u8', decide_eq_true_eq, decide_eq_false_iff_not, beq_iff_eq, beq_eq_false_iff_ne, bne_iff_ne, bne_eq_false_iff_eq, Bool.not_eq_true', Bool.not_eq_false', ne_eq, nc0, nc1, nc4, nc8, Int.toNat_natCast, Int.cast_ofNat_Int, Int.ofNat_eq_natCast, and_true, true_and, s_subL, s_shr32, s_shl32, s_or32]
    rw [dgD, D]
    have e : pre (4294967296 : Nat) a a.length = V (4294967296 : Nat) a := rfl
    rw [← e, ← h4, ← trD_16 h3]
    simp
theorem h_digits : Holds Try.prog 47 (gS_Dp dgD sz1) := holds_S_Dp fun a ha hp => w_digits _ rfl _ rfl ⟨h_rtrim, trivial⟩ a ha (of_decide_eq_true hp)
end Go.Proofs.SX

namespace Go.Proofs.SX
open Go Go.Proofs
set_option maxRecDepth 100000
set_option linter.unusedVariables false
set_option linter.unusedSimpArgs false
def whW (d : LI) : LI := W (V (65536 : Nat) d)
def whP (d : LI) : Bool := (d.all fun x => decide (0 ≤ x ∧ x < 65536)) && decide (d.length ≤ 4194304)
theorem whP_iff {d : LI} : whP d = true ↔ Dg (65536 : Nat) d ∧ d.length ≤ 4194304 := by
  unfold whP
  rw [Bool.and_eq_true, decide_eq_true_eq, List.all_eq_true]
  refine and_congr_left' ⟨fun h => Dg.of_mem (by decide) fun x hx => by simpa using h x hx, fun h x hx => ?_⟩
  have := h.mem x hx
  simpa using this
theorem words_of {x out : LI} (dx : Dg (65536 : Nat) x) (tx : Top x) (h1 : x.length ≤ 2 * out.length) (h2 : 2 * out.length ≤ x.length + 1) (h : ∀ j, j < out.length → out.getD j 0 = x.getD (2 * j) 0 + x.getD (2 * j + 1) 0 * 65536) : out = W (V (65536 : Nat) x) := by
  have dout : Dg (4294967296 : Nat) out := fun j => by
    by_cases hj : j < out.length
    · rw [h j hj]; have := dx (2 * j); have := dx (2 * j + 1); omega
    · rw [getD_big (by omega)]; omega
  have hv : ∀ n, n ≤ out.length → pre (4294967296 : Nat) out n = pre (65536 : Nat) x (2 * n) := by
    intro n
    induction n with
    | zero => intro _; rfl
    | succ n ih =>
      intro hn
      rw [pre_succ, ih (by omega), h n (by omega)]
      show _ = pre (65536 : Nat) x (2 * n + 1 + 1)
      rw [pre_succ, pre_succ]
      have h3 := dx (2 * n)
      have h4 := dx (2 * n + 1)
      have e : (x.getD (2 * n) 0 + x.getD (2 * n + 1) 0 * 65536).toNat = (x.getD (2 * n) 0).toNat + (x.getD (2 * n + 1) 0).toNat * 65536 := by omega
      have ep : (4294967296 : Nat) ^ n = 65536 ^ (2 * n) := by rw [Nat.pow_mul]
      rw [e, ep, Nat.pow_succ, Nat.add_mul, Nat.mul_assoc _ 65536, Nat.mul_comm 65536]
      omega
  have e : V (4294967296 : Nat) out = V (65536 : Nat) x := by
    show pre (4294967296 : Nat) out out.length = _
    rw [hv _ (Nat.le_refl _), pre_ge h1]
  rw [W, ← e]
  refine (digs_V (by decide) dout ?_).symm
  by_cases h0 : out.length = 0
  · exact .inl h0
  · right
    rw [h _ (by omega)]
    have h3 := dx (2 * (out.length - 1))
    have h4 := dx (2 * (out.length - 1) + 1)
    rcases tx with tx | tx
    · omega
    · by_cases he : x.length = 2 * out.length
      · rw [show x.length - 1 = 2 * (out.length - 1) + 1 by omega] at tx; omega
      · rw [show x.length - 1 = 2 * (out.length - 1) by omega] at tx; omega
theorem w_whole (A : Ar) (hA : A = stdAr) (tr : LI → LI) (htr : tr = trD) (hG : allHold Try.prog [(69, gD_D tr)]) (d : LI) (hd : Nm .u64 d) (dd : Dg (65536 : Nat) d) (ld : d.length ≤ 4194304) :
    FCall Try.prog 45 [.sli .u64 d] (.sli .u32 (whW d)) := by
  have k := ok_of hA hG
  have ex : tr d = D (V (65536 : Nat) d) := by rw [htr, trD_16 dd]; rfl
  have dx : Dg (65536 : Nat) (tr d) := by rw [ex]; exact Dg.digs (by decide) _
  have tx : Top (tr d) := by rw [ex]; exact Top.digs (by decide) _
  have lx : (tr d).length ≤ 4194304 := by rw [ex]; exact Nat.le_trans (digs_len (by decide) (V_lt dd)) ld
  have vx : V (65536 : Nat) (tr d) = V (65536 : Nat) d := by rw [ex]; exact V_digs (by decide) _
  refine FCall.of_body k (fn := Try.f45) rfl rfl rfl rfl (fun _ => ?_)
  (refine AWP.seq (AWP.go k 100 [] ?_); (conv => { arg 1; cbv }); refine ⟨?_, ?_⟩; rotate_left; (try dsimp only [sthen, sblock]); rotate_right; (try exact obs_nil))
  (refine AWP.seq (AWP.go k 100 [] ?_); (conv => { arg 1; cbv }); refine ⟨?_, ?_⟩; rotate_left; (try dsimp only [sthen, sblock]); rotate_right; (try exact obs_nil))
  (refine AWP.seq (AWP.go k 100 [] ?_); (conv => { arg 1; cbv }); refine ⟨?_, ?_⟩; rotate_left; (try dsimp only [sthen, sblock]); rotate_right; (try exact obs_nil))
  refine AWP.seq ?_
  (refine AWP.seq (AWP.go k 100 [] ?_); (conv => { arg 1; cbv }); refine ⟨?_, ?_⟩; rotate_left; (try dsimp only [sthen, sblock]); rotate_right; (try exact obs_nil))
  rw [whW, ← vx]
  generalize tr d = x at *
  refine AWP.block ?_
  refine AWP.loopQ (fun y : Nat × LI => ⟨mkF [(0, .sli .u64 x), (3, .osl 0 0 (A.len y.2)), (4, .int .i64 y.1)] 38 0, [.row .u32 y.2]⟩)
    (fun y => y.1 = 2 * y.2.length ∧ y.1 ≤ x.length + 1 ∧ ∀ j, j < y.2.length → y.2.getD j 0 = x.getD (2 * j) 0 + x.getD (2 * j + 1) 0 * 65536) (fun y => x.length + 1 - y.1) (0, []) ?_ ?_ ?_
  · subst_vars; (refine ⟨?_, ?_, rfl⟩ <;> repeat' (first | exact .nil | exact .any _ | exact .gone _ | exact .same _ | exact .lit _ _ | exact .nil _ | refine .cons ?_ ?_ | exact AvLe.int_eq (by first | rfl | (simp only [Int.ofNat_eq_natCast]; omega) | omega) | exact AvLe.lit_eq (by first | rfl | (simp only [Int.ofNat_eq_natCast]; omega) | omega) | exact AvLe.osl_eq (by first | rfl | (simp only [Int.ofNat_eq_natCast]; omega) | omega) (by first | rfl | (simp only [Int.ofNat_eq_natCast]; omega) | omega | (simp; done) | (simp; omega)) | refine BlLe.row_eq ?_))
  · exact ⟨rfl, Nat.zero_le _, fun j hj => absurd hj (by simp)⟩
  rintro ⟨i, out⟩ ⟨h1, h2, h3⟩
  dsimp only at h1 h2 h3
  have di := dx i
  have dj := dx (i + 1)
  have ei : ((i : Int) + 1).toNat = i + 1 := by omega
  have hnext : ∀ w : Int, w = x.getD i 0 + x.getD (i + 1) 0 * 65536 → i < x.length → i + 2 = 2 * (out ++ [w]).length ∧ i + 2 ≤ x.length + 1 ∧ ∀ j, j < (out ++ [w]).length → (out ++ [w]).getD j 0 = x.getD (2 * j) 0 + x.getD (2 * j + 1) 0 * 65536 := by
    intro w hw hi
    refine ⟨by simp; omega, by omega, fun j hj => ?_⟩
    rw [getD_app]
    simp at hj
    by_cases hjo : j < out.length
    · rw [if_pos hjo]; exact h3 j hjo
    · have : j = out.length := by omega
      rw [if_neg hjo, this, Nat.sub_self, hw, h1]; rfl
  by_cases c : i < x.length
  · by_cases c2 : i + 1 < x.length
    · (refine AWP.seq (AWP.go k 100 [true] ?_); (conv => { arg 1; cbv }); refine ⟨?_, ?_⟩; rotate_left; (try dsimp only [sthen, sblock]); rotate_right; (try exact obs_nil))
      · (subst_vars; simp (disch := omega) only [obs_nil_iff, obs_cons_iff, s_ofNat, s_plus, s_len, s_rd, s_set, s_eql, s_neq, s_lss, s_leq, s_gtr, s_geq, s_not, s_and, s_beq, s_add, s_sub, s_mul, s_wrap, s_diff, s_max, s_min, s_quo, s_rem, s_quo32, s_rem32, s_quo64, s_rem64, s_zerosI, s_cat, wi, wrap_u32', wrap_u64', wrap_u8', decide_eq_true_eq, decide_eq_false_iff_not, beq_iff_eq, beq_eq_false_iff_ne, bne_iff_ne, bne_eq_false_iff_eq, Bool.not_eq_true', Bool.not_eq_false', ne_eq, nc0, nc1, nc4, nc8, Int.toNat_natCast, Int.cast_ofNat_Int, Int.ofNat_eq_natCast, and_true, true_and, s_subL, s_shr32, s_shl32, s_or32]; (repeat' apply And.intro) <;> first | trivial | omega)
      (refine AWP.seq (AWP.go k 100 [true] ?_); (conv => { arg 1; cbv }); refine ⟨?_, ?_⟩; rotate_left; (try dsimp only [sthen, sblock]); rotate_right; (try exact obs_nil))
      · subst_vars; ((simp only [s_plus, s_len, s_ofNat, nc0, nc1, nc2, nc4, s_sub_all, s_sub1, s_sub2, s_sub4, s_cat]) <;> (try simp (disch := omega) only [Int.emod_eq_of_lt, List.length_cons, List.length_nil, List.length_append, obs_nil_iff, obs_cons_iff, s_ofNat, s_plus, s_len, s_rd, s_set, s_eql, s_neq, s_lss, s_leq, s_gtr, s_geq, s_not, s_and, s_beq, s_add, s_sub, s_mul, s_wrap, s_diff, s_max, s_min, s_quo, s_rem, s_quo32, s_rem32, s_quo64, s_rem64, s_zerosI, s_cat, wi, wrap_u32', wrap_u64', wrap_u8', decide_eq_true_eq, decide_eq_false_iff_not, beq_iff_eq, beq_eq_false_iff_ne, bne_iff_ne, bne_eq_false_iff_eq, Bool.not_eq_true', Bool.not_eq_false', ne_eq, nc0, nc1, nc4, nc8, Int.toNat_natCast, Int.cast_ofNat_Int, Int.ofNat_eq_natCast, and_true, true_and, s_subL, s_shr32, s_shl32, s_or32])); omega
      (refine AWP.go k 100 [] ?_; (conv => { arg 1; cbv }); refine ⟨?_, ?_⟩; rotate_left; (try dsimp only [sthen, sblock]); rotate_right; (try exact obs_nil))
      refine handedR.mk (i + 2, out ++ [x.getD i 0 + x.getD (i + 1) 0 * 65536]) [2] [.gone, .gone, .row .u32 (out ++ [x.getD i 0 + x.getD (i + 1) 0 * 65536])] ?_ ⟨rfl, ⟨.inr rfl, trivial⟩, rfl⟩ ?_ ?_
      · subst hA
        ((simp only [s_plus, s_len, s_ofNat, nc0, nc1, nc2, nc4, s_sub_all, s_sub1, s_sub2, s_sub4, s_cat]) <;> (try simp (disch := omega) only [Int.emod_eq_of_lt, List.length_cons, List.length_nil, List.length_append, obs_nil_iff, obs_cons_iff, s_ofNat, s_plus, s_len, s_rd, s_set, s_eql, s_neq, s_lss, s_leq, s_gtr, s_geq, s_not, s_and, s_beq, s_add, s_sub, s_mul, s_wrap, s_diff, s_max, s_min, s_quo, s_rem, s_quo32, s_rem32, s_quo64, s_rem64, s_zerosI, s_cat, wi, wrap_u32', wrap_u64', wrap_u8', decide_eq_true_eq, decide_eq_false_iff_not, beq_iff_eq, beq_eq_false_iff_ne, bne_iff_ne, bne_eq_false_iff_eq, Bool.not_eq_true', Bool.not_eq_false', ne_eq, nc0, nc1, nc4, nc8, Int.toNat_natCast, Int.cast_ofNat_Int, Int.ofNat_eq_natCast, and_true, true_and, s_subL, s_shr32, s_shl32, s_or32]))
        rw [ei]
        simp (disch := omega) only [Int.emod_eq_of_lt, obs_nil_iff, obs_cons_iff, s_ofNat, s_plus, s_len, s_rd, s_set, s_eql, s_neq, s_lss, s_leq, s_gtr, s_geq, s_not, s_and, s_beq, s_add, s_sub, s_mul, s_wrap, s_diff, s_max, s_min, s_quo, s_rem, s_quo32, s_rem32, s_quo64, s_rem64, s_zerosI, s_cat, wi, wrap_u32', wrap_u64', wrap_u8', decide_eq_true_eq, decide_eq_false_iff_not, beq_iff_eq, beq_eq_false_iff_ne, bne_iff_ne, bne_eq_false_iff_eq, Bool.not_eq_true', Bool.not_eq_false', ne_eq, nc0, nc1, nc4, nc8, Int.toNat_natCast, Int.cast_ofNat_Int, Int.ofNat_eq_natCast, and_true, true_and, s_subL, s_shr32, s_shl32, s_or32]
        (refine ⟨?_, ?_, rfl⟩ <;> repeat' (first | exact .nil | exact .any _ | exact .gone _ | exact .same _ | exact .lit _ _ | exact .nil _ | refine .cons ?_ ?_ | exact AvLe.int_eq (by first | rfl | (simp only [Int.ofNat_eq_natCast]; omega) | omega) | exact AvLe.lit_eq (by first | rfl | (simp only [Int.ofNat_eq_natCast]; omega) | omega) | exact AvLe.osl_eq (by first | rfl | (simp only [Int.ofNat_eq_natCast]; omega) | omega) (by first | rfl | (simp only [Int.ofNat_eq_natCast]; omega) | omega | (simp; done) | (simp; omega)) | refine BlLe.row_eq ?_))
      · exact hnext _ rfl c
      · dsimp only; omega
    · have ej : x.getD (i + 1) 0 = 0 := getD_big (by omega)
      (refine AWP.seq (AWP.go k 100 [true] ?_); (conv => { arg 1; cbv }); refine ⟨?_, ?_⟩; rotate_left; (try dsimp only [sthen, sblock]); rotate_right; (try exact obs_nil))
      · (subst_vars; simp (disch := omega) only [obs_nil_iff, obs_cons_iff, s_ofNat, s_plus, s_len, s_rd, s_set, s_eql, s_neq, s_lss, s_leq, s_gtr, s_geq, s_not, s_and, s_beq, s_add, s_sub, s_mul, s_wrap, s_diff, s_max, s_min, s_quo, s_rem, s_quo32, s_rem32, s_quo64, s_rem64, s_zerosI, s_cat, wi, wrap_u32', wrap_u64', wrap_u8', decide_eq_true_eq, decide_eq_false_iff_not, beq_iff_eq, beq_eq_false_iff_ne, bne_iff_ne, bne_eq_false_iff_eq, Bool.not_eq_true', Bool.not_eq_false', ne_eq, nc0, nc1, nc4, nc8, Int.toNat_natCast, Int.cast_ofNat_Int, Int.ofNat_eq_natCast, and_true, true_and, s_subL, s_shr32, s_shl32, s_or32]; (repeat' apply And.intro) <;> first | trivial | omega)
      (refine AWP.seq (AWP.go k 100 [false] ?_); (conv => { arg 1; cbv }); refine ⟨?_, ?_⟩; rotate_left; (try dsimp only [sthen, sblock]); rotate_right; (try exact obs_nil))
      · subst_vars; ((simp only [s_plus, s_len, s_ofNat, nc0, nc1, nc2, nc4, s_sub_all, s_sub1, s_sub2, s_sub4, s_cat]) <;> (try simp (disch := omega) only [Int.emod_eq_of_lt, List.length_cons, List.length_nil, List.length_append, obs_nil_iff, obs_cons_iff, s_ofNat, s_plus, s_len, s_rd, s_set, s_eql, s_neq, s_lss, s_leq, s_gtr, s_geq, s_not, s_and, s_beq, s_add, s_sub, s_mul, s_wrap, s_diff, s_max, s_min, s_quo, s_rem, s_quo32, s_rem32, s_quo64, s_rem64, s_zerosI, s_cat, wi, wrap_u32', wrap_u64', wrap_u8', decide_eq_true_eq, decide_eq_false_iff_not, beq_iff_eq, beq_eq_false_iff_ne, bne_iff_ne, bne_eq_false_iff_eq, Bool.not_eq_true', Bool.not_eq_false', ne_eq, nc0, nc1, nc4, nc8, Int.toNat_natCast, Int.cast_ofNat_Int, Int.ofNat_eq_natCast, and_true, true_and, s_subL, s_shr32, s_shl32, s_or32])); omega
      (refine AWP.go k 100 [] ?_; (conv => { arg 1; cbv }); refine ⟨?_, ?_⟩; rotate_left; (try dsimp only [sthen, sblock]); rotate_right; (try exact obs_nil))
      refine handedR.mk (i + 2, out ++ [x.getD i 0]) [2] [.gone, .gone, .row .u32 (out ++ [x.getD i 0])] ?_ ⟨rfl, ⟨.inr rfl, trivial⟩, rfl⟩ ?_ ?_
      · subst hA
        ((simp only [s_plus, s_len, s_ofNat, nc0, nc1, nc2, nc4, s_sub_all, s_sub1, s_sub2, s_sub4, s_cat]) <;> (try simp (disch := omega) only [Int.emod_eq_of_lt, List.length_cons, List.length_nil, List.length_append, obs_nil_iff, obs_cons_iff, s_ofNat, s_plus, s_len, s_rd, s_set, s_eql, s_neq, s_lss, s_leq, s_gtr, s_geq, s_not, s_and, s_beq, s_add, s_sub, s_mul, s_wrap, s_diff, s_max, s_min, s_quo, s_rem, s_quo32, s_rem32, s_quo64, s_rem64, s_zerosI, s_cat, wi, wrap_u32', wrap_u64', wrap_u8', decide_eq_true_eq, decide_eq_false_iff_not, beq_iff_eq, beq_eq_false_iff_ne, bne_iff_ne, bne_eq_false_iff_eq, Bool.not_eq_true', Bool.not_eq_false', ne_eq, nc0, nc1, nc4, nc8, Int.toNat_natCast, Int.cast_ofNat_Int, Int.ofNat_eq_natCast, and_true, true_and, s_subL, s_shr32, s_shl32, s_or32]))
        (refine ⟨?_, ?_, rfl⟩ <;> repeat' (first | exact .nil | exact .any _ | exact .gone _ | exact .same _ | exact .lit _ _ | exact .nil _ | refine .cons ?_ ?_ | exact AvLe.int_eq (by first | rfl | (simp only [Int.ofNat_eq_natCast]; omega) | omega) | exact AvLe.lit_eq (by first | rfl | (simp only [Int.ofNat_eq_natCast]; omega) | omega) | exact AvLe.osl_eq (by first | rfl | (simp only [Int.ofNat_eq_natCast]; omega) | omega) (by first | rfl | (simp only [Int.ofNat_eq_natCast]; omega) | omega | (simp; done) | (simp; omega)) | refine BlLe.row_eq ?_))
      · exact hnext _ (by rw [ej]; omega) c
      · dsimp only; omega
  · (refine AWP.seq (AWP.go k 100 [false] ?_); (conv => { arg 1; cbv }); refine ⟨?_, ?_⟩; rotate_left; (try dsimp only [sthen, sblock]); rotate_right; (try exact obs_nil))
    · (subst_vars; simp (disch := omega) only [obs_nil_iff, obs_cons_iff, s_ofNat, s_plus, s_len, s_rd, s_set, s_eql, s_neq, s_lss, s_leq, s_gtr, s_geq, s_not, s_and, s_beq, s_add, s_sub, s_mul, s_wrap, s_diff, s_max, s_min, s_quo, s_rem, s_quo32, s_rem32, s_quo64, s_rem64, s_zerosI, s_cat, wi, wrap_u32', wrap_u64', wrap_u8', decide_eq_true_eq, decide_eq_false_iff_not, beq_iff_eq, beq_eq_false_iff_ne, bne_iff_ne, bne_eq_false_iff_eq, Bool.not_eq_true', Bool.not_eq_false', ne_eq, nc0, nc1, nc4, nc8, Int.toNat_natCast, Int.cast_ofNat_Int, Int.ofNat_eq_natCast, and_true, true_and, s_subL, s_shr32, s_shl32, s_or32]; (repeat' apply And.intro) <;> first | trivial | omega)
    (dsimp only [handed, handedR, sblock, sthen]; rw [if_pos rfl])
    (refine AWP.seq (AWP.go k 100 [] ?_); (conv => { arg 1; cbv }); refine ⟨?_, ?_⟩; rotate_left; (try dsimp only [sthen, sblock]); rotate_right; (try exact obs_nil))
    (refine AWP.go k 100 [] ?_; (conv => { arg 1; cbv }); refine ⟨?_, ?_⟩; rotate_left; (try dsimp only [sthen, sblock]); rotate_right; (try exact obs_nil))
    (refine ⟨fun id => by simp, ?_⟩; conv => { lhs; cbv })
    rw [← words_of dx tx (by omega) (by omega) h3]
    subst hA
    ((simp only [s_plus, s_len, s_ofNat, nc0, nc1, nc2, nc4, s_sub_all, s_sub1, s_sub2, s_sub4, s_cat]) <;> (try simp (disch := omega) only [Int.emod_eq_of_lt, List.length_cons, List.length_nil, List.length_append, obs_nil_iff, obs_cons_iff, s_ofNat, s_plus, s_len, s_rd, s_set, s_eql, s_neq, s_lss, s_leq, s_gtr, s_geq, s_not, s_and, s_beq, s_add, s_sub, s_mul, s_wrap, s_diff, s_max, s_min, s_quo, s_rem, s_quo32, s_rem32, s_quo64, s_rem64, s_zerosI, s_cat, wi, wrap_u32', wrap_u64', wrap_u8', decide_eq_true_eq, decide_eq_false_iff_not, beq_iff_eq, beq_eq_false_iff_ne, bne_iff_ne, bne_eq_false_iff_eq, Bool.not_eq_true', Bool.not_eq_false', ne_eq, nc0, nc1, nc4, nc8, Int.toNat_natCast, Int.cast_ofNat_Int, Int.ofNat_eq_natCast, and_true, true_and, s_subL, s_shr32, s_shl32, s_or32]))
theorem h_whole : Holds Try.prog 45 (gD_Sp whW whP) := holds_D_Sp fun d hd hp => w_whole _ rfl _ rfl ⟨h_rtrim, trivial⟩ d hd (whP_iff.1 hp).1 (whP_iff.1 hp).2
end Go.Proofs.SX

namespace Go.Proofs.SX
open Go Go.Proofs
set_option maxRecDepth 100000
set_option linter.unusedVariables false
set_option linter.unusedSimpArgs false
def cm16 (x y : LI) : Int := cmV (V (65536 : Nat) x) (V (65536 : Nat) y)
def whP2 (x y : LI) : Bool := whP x && whP y
theorem whP2_iff {x y : LI} : whP2 x y = true ↔ (Dg (65536 : Nat) x ∧ x.length ≤ 4194304) ∧ Dg (65536 : Nat) y ∧ y.length ≤ 4194304 := by
  unfold whP2; rw [Bool.and_eq_true, whP_iff, whP_iff]
theorem w_compare (A : Ar) (hA : A = stdAr) (dg : LI → Int → Int) (hdg : dg = rdW) (np : LI → Int → Bool) (hnp : np = nnP) (hG : allHold Try.prog [(51, gDI_Vp A dg np)])
    (x y : LI) (dx : Dg (65536 : Nat) x) (dy : Dg (65536 : Nat) y) (lx : x.length ≤ 4194304) (ly : y.length ≤ 4194304) : FCall Try.prog 49 [.sli .u64 x, .sli .u64 y] (.int .i64 (cm16 x y)) := by
  have k := ok_of hA hG
  refine FCall.of_body k (fn := Try.f49) rfl rfl rfl rfl (fun _ => ?_)
  (refine AWP.seq (AWP.go k 100 [] ?_); (conv => { arg 1; cbv }); refine ⟨?_, ?_⟩; rotate_left; (try dsimp only [sthen, sblock]); rotate_right; (try exact obs_nil))
  refine AWP.seq ?_
  (refine AWP.seq (AWP.go k 100 [] ?_); (conv => { arg 1; cbv }); refine ⟨?_, ?_⟩; rotate_left; (try dsimp only [sthen, sblock]); rotate_right; (try exact obs_nil))
  obtain ⟨N, hN, hNx, hNy⟩ : ∃ N : Nat, (if (y.length : Int) > x.length then (y.length : Int) else x.length) = (N : Int) ∧ x.length ≤ N ∧ y.length ≤ N := ⟨max x.length y.length, by omega⟩
  have hNm : N ≤ 4194304 := by omega
  refine AWP.block ?_
  refine AWP.loopP (fun i : Int => ⟨mkF [(0, .sli .u64 x), (1, .sli .u64 y), (5, .int .i64 i)] 30 0, []⟩)
    (fun i => (-1 ≤ i ∧ i < N) ∧ ∀ j : Nat, i < j → x.getD j 0 = y.getD j 0) (fun i => (i + 1).toNat) ((N : Int) - 1) ?_ ?_ ?_
  · subst_vars
    simp (disch := omega) only [hN, obs_nil_iff, obs_cons_iff, s_ofNat, s_plus, s_len, s_rd, s_set, s_eql, s_neq, s_lss, s_leq, s_gtr, s_geq, s_not, s_and, s_beq, s_add, s_sub, s_mul, s_wrap, s_diff, s_max, s_min, s_quo, s_rem, s_quo32, s_rem32, s_quo64, s_rem64, s_zerosI, s_cat, wi, wrap_u32', wrap_u64', wrap_u8', decide_eq_true_eq, decide_eq_false_iff_not, beq_iff_eq, beq_eq_false_iff_ne, bne_iff_ne, bne_eq_false_iff_eq, Bool.not_eq_true', Bool.not_eq_false', ne_eq, nc0, nc1, nc4, nc8, Int.toNat_natCast, Int.cast_ofNat_Int, Int.ofNat_eq_natCast, and_true, true_and, s_subL, s_shr32, s_shl32, s_or32]
    (refine ⟨?_, ?_, rfl⟩ <;> repeat' (first | exact .nil | exact .any _ | exact .gone _ | exact .same _ | exact .lit _ _ | exact .nil _ | refine .cons ?_ ?_ | exact AvLe.int_eq (by first | rfl | (simp only [Int.ofNat_eq_natCast]; omega) | omega) | exact AvLe.lit_eq (by first | rfl | (simp only [Int.ofNat_eq_natCast]; omega) | omega) | exact AvLe.osl_eq (by first | rfl | (simp only [Int.ofNat_eq_natCast]; omega) | omega) (by first | rfl | (simp only [Int.ofNat_eq_natCast]; omega) | omega | (simp; done) | (simp; omega)) | refine BlLe.row_eq ?_))
  · exact ⟨by omega, fun j hj => by rw [getD_big (by omega), getD_big (by omega)]⟩
  rintro i ⟨h1, h2⟩
  have ends : ∀ i, x.getD i 0 < y.getD i 0 → (∀ j, i < j → x.getD j 0 = y.getD j 0) → V (65536 : Nat) x < V (65536 : Nat) y := fun i hi hj => by
    have := pre_cmp (b := (65536 : Nat)) (k := N + i + 1) dx hi (by omega) fun j h _ => hj j h
    rwa [pre_ge (by omega), pre_ge (by omega)] at this
  have ends2 : ∀ i, y.getD i 0 < x.getD i 0 → (∀ j, i < j → x.getD j 0 = y.getD j 0) → V (65536 : Nat) y < V (65536 : Nat) x := fun i hi hj => by
    have := pre_cmp (b := (65536 : Nat)) (k := N + i + 1) dy hi (by omega) fun j h _ => (hj j h).symm
    rwa [pre_ge (by omega), pre_ge (by omega)] at this
  by_cases c : 0 ≤ i
  · obtain ⟨m, rfl⟩ := Int.eq_ofNat_of_zero_le c
    have a1 := ends m
    have a2 := ends2 m
    by_cases c1 : x.getD m 0 < y.getD m 0
    · (refine AWP.seq (AWP.go k 100 [true] ?_); (conv => { arg 1; cbv }); refine ⟨?_, ?_⟩; rotate_left; (try dsimp only [sthen, sblock]); rotate_right; (try exact obs_nil))
      · (subst_vars; simp (disch := omega) only [obs_nil_iff, obs_cons_iff, s_ofNat, s_plus, s_len, s_rd, s_set, s_eql, s_neq, s_lss, s_leq, s_gtr, s_geq, s_not, s_and, s_beq, s_add, s_sub, s_mul, s_wrap, s_diff, s_max, s_min, s_quo, s_rem, s_quo32, s_rem32, s_quo64, s_rem64, s_zerosI, s_cat, wi, wrap_u32', wrap_u64', wrap_u8', decide_eq_true_eq, decide_eq_false_iff_not, beq_iff_eq, beq_eq_false_iff_ne, bne_iff_ne, bne_eq_false_iff_eq, Bool.not_eq_true', Bool.not_eq_false', ne_eq, nc0, nc1, nc4, nc8, Int.toNat_natCast, Int.cast_ofNat_Int, Int.ofNat_eq_natCast, and_true, true_and, s_subL, s_shr32, s_shl32, s_or32]; (repeat' apply And.intro) <;> first | trivial | omega)
      (refine AWP.seq (AWP.go k 100 [true] ?_); (conv => { arg 1; cbv }); refine ⟨?_, ?_⟩; rotate_left; (try dsimp only [sthen, sblock]); rotate_right; (try exact obs_nil))
      · subst_vars; simp (disch := omega) only [nnP, rdW, obs_nil_iff, obs_cons_iff, s_ofNat, s_plus, s_len, s_rd, s_set, s_eql, s_neq, s_lss, s_leq, s_gtr, s_geq, s_not, s_and, s_beq, s_add, s_sub, s_mul, s_wrap, s_diff, s_max, s_min, s_quo, s_rem, s_quo32, s_rem32, s_quo64, s_rem64, s_zerosI, s_cat, wi, wrap_u32', wrap_u64', wrap_u8', decide_eq_true_eq, decide_eq_false_iff_not, beq_iff_eq, beq_eq_false_iff_ne, bne_iff_ne, bne_eq_false_iff_eq, Bool.not_eq_true', Bool.not_eq_false', ne_eq, nc0, nc1, nc4, nc8, Int.toNat_natCast, Int.cast_ofNat_Int, Int.ofNat_eq_natCast, and_true, true_and, s_subL, s_shr32, s_shl32, s_or32]; omega
      dsimp only [handed]
      (refine ⟨fun id => by simp, ?_⟩; conv => { lhs; cbv })
      rw [cm16, cmV_lt (a1 c1 fun j hj => h2 j (by omega))]
      rfl
    by_cases c2 : y.getD m 0 < x.getD m 0
    · (refine AWP.seq (AWP.go k 100 [true] ?_); (conv => { arg 1; cbv }); refine ⟨?_, ?_⟩; rotate_left; (try dsimp only [sthen, sblock]); rotate_right; (try exact obs_nil))
      · (subst_vars; simp (disch := omega) only [obs_nil_iff, obs_cons_iff, s_ofNat, s_plus, s_len, s_rd, s_set, s_eql, s_neq, s_lss, s_leq, s_gtr, s_geq, s_not, s_and, s_beq, s_add, s_sub, s_mul, s_wrap, s_diff, s_max, s_min, s_quo, s_rem, s_quo32, s_rem32, s_quo64, s_rem64, s_zerosI, s_cat, wi, wrap_u32', wrap_u64', wrap_u8', decide_eq_true_eq, decide_eq_false_iff_not, beq_iff_eq, beq_eq_false_iff_ne, bne_iff_ne, bne_eq_false_iff_eq, Bool.not_eq_true', Bool.not_eq_false', ne_eq, nc0, nc1, nc4, nc8, Int.toNat_natCast, Int.cast_ofNat_Int, Int.ofNat_eq_natCast, and_true, true_and, s_subL, s_shr32, s_shl32, s_or32]; (repeat' apply And.intro) <;> first | trivial | omega)
      (refine AWP.seq (AWP.go k 100 [false, true] ?_); (conv => { arg 1; cbv }); refine ⟨?_, ?_⟩; rotate_left; (try dsimp only [sthen, sblock]); rotate_right; (try exact obs_nil))
      · subst_vars; simp (disch := omega) only [nnP, rdW, obs_nil_iff, obs_cons_iff, s_ofNat, s_plus, s_len, s_rd, s_set, s_eql, s_neq, s_lss, s_leq, s_gtr, s_geq, s_not, s_and, s_beq, s_add, s_sub, s_mul, s_wrap, s_diff, s_max, s_min, s_quo, s_rem, s_quo32, s_rem32, s_quo64, s_rem64, s_zerosI, s_cat, wi, wrap_u32', wrap_u64', wrap_u8', decide_eq_true_eq, decide_eq_false_iff_not, beq_iff_eq, beq_eq_false_iff_ne, bne_iff_ne, bne_eq_false_iff_eq, Bool.not_eq_true', Bool.not_eq_false', ne_eq, nc0, nc1, nc4, nc8, Int.toNat_natCast, Int.cast_ofNat_Int, Int.ofNat_eq_natCast, and_true, true_and, s_subL, s_shr32, s_shl32, s_or32]; omega
      dsimp only [handed]
      (refine ⟨fun id => by simp, ?_⟩; conv => { lhs; cbv })
      rw [cm16, cmV_gt (a2 c2 fun j hj => h2 j (by omega))]
      subst_vars; rfl
    · (refine AWP.seq (AWP.go k 100 [true] ?_); (conv => { arg 1; cbv }); refine ⟨?_, ?_⟩; rotate_left; (try dsimp only [sthen, sblock]); rotate_right; (try exact obs_nil))
      · (subst_vars; simp (disch := omega) only [obs_nil_iff, obs_cons_iff, s_ofNat, s_plus, s_len, s_rd, s_set, s_eql, s_neq, s_lss, s_leq, s_gtr, s_geq, s_not, s_and, s_beq, s_add, s_sub, s_mul, s_wrap, s_diff, s_max, s_min, s_quo, s_rem, s_quo32, s_rem32, s_quo64, s_rem64, s_zerosI, s_cat, wi, wrap_u32', wrap_u64', wrap_u8', decide_eq_true_eq, decide_eq_false_iff_not, beq_iff_eq, beq_eq_false_iff_ne, bne_iff_ne, bne_eq_false_iff_eq, Bool.not_eq_true', Bool.not_eq_false', ne_eq, nc0, nc1, nc4, nc8, Int.toNat_natCast, Int.cast_ofNat_Int, Int.ofNat_eq_natCast, and_true, true_and, s_subL, s_shr32, s_shl32, s_or32]; (repeat' apply And.intro) <;> first | trivial | omega)
      (refine AWP.seq (AWP.go k 100 [false, false] ?_); (conv => { arg 1; cbv }); refine ⟨?_, ?_⟩; rotate_left; (try dsimp only [sthen, sblock]); rotate_right; (try exact obs_nil))
      · subst_vars; simp (disch := omega) only [nnP, rdW, obs_nil_iff, obs_cons_iff, s_ofNat, s_plus, s_len, s_rd, s_set, s_eql, s_neq, s_lss, s_leq, s_gtr, s_geq, s_not, s_and, s_beq, s_add, s_sub, s_mul, s_wrap, s_diff, s_max, s_min, s_quo, s_rem, s_quo32, s_rem32, s_quo64, s_rem64, s_zerosI, s_cat, wi, wrap_u32', wrap_u64', wrap_u8', decide_eq_true_eq, decide_eq_false_iff_not, beq_iff_eq, beq_eq_false_iff_ne, bne_iff_ne, bne_eq_false_iff_eq, Bool.not_eq_true', Bool.not_eq_false', ne_eq, nc0, nc1, nc4, nc8, Int.toNat_natCast, Int.cast_ofNat_Int, Int.ofNat_eq_natCast, and_true, true_and, s_subL, s_shr32, s_shl32, s_or32]; omega
      (refine AWP.go k 100 [] ?_; (conv => { arg 1; cbv }); refine ⟨?_, ?_⟩; rotate_left; (try dsimp only [sthen, sblock]); rotate_right; (try exact obs_nil))
      apply handed.mk ((m : Int) - 1)
      · subst_vars; simp (disch := omega) only [obs_nil_iff, obs_cons_iff, s_ofNat, s_plus, s_len, s_rd, s_set, s_eql, s_neq, s_lss, s_leq, s_gtr, s_geq, s_not, s_and, s_beq, s_add, s_sub, s_mul, s_wrap, s_diff, s_max, s_min, s_quo, s_rem, s_quo32, s_rem32, s_quo64, s_rem64, s_zerosI, s_cat, wi, wrap_u32', wrap_u64', wrap_u8', decide_eq_true_eq, decide_eq_false_iff_not, beq_iff_eq, beq_eq_false_iff_ne, bne_iff_ne, bne_eq_false_iff_eq, Bool.not_eq_true', Bool.not_eq_false', ne_eq, nc0, nc1, nc4, nc8, Int.toNat_natCast, Int.cast_ofNat_Int, Int.ofNat_eq_natCast, and_true, true_and, s_subL, s_shr32, s_shl32, s_or32]; (refine ⟨?_, ?_, rfl⟩ <;> repeat' (first | exact .nil | exact .any _ | exact .gone _ | exact .same _ | exact .lit _ _ | exact .nil _ | refine .cons ?_ ?_ | exact AvLe.int_eq (by first | rfl | (simp only [Int.ofNat_eq_natCast]; omega) | omega) | exact AvLe.lit_eq (by first | rfl | (simp only [Int.ofNat_eq_natCast]; omega) | omega) | exact AvLe.osl_eq (by first | rfl | (simp only [Int.ofNat_eq_natCast]; omega) | omega) (by first | rfl | (simp only [Int.ofNat_eq_natCast]; omega) | omega | (simp; done) | (simp; omega)) | refine BlLe.row_eq ?_))
      · refine ⟨by omega, fun j hj => ?_⟩
        by_cases hjm : j = m
        · rw [hjm]; omega
        · exact h2 j (by omega)
      · omega
  · (refine AWP.seq (AWP.go k 100 [false] ?_); (conv => { arg 1; cbv }); refine ⟨?_, ?_⟩; rotate_left; (try dsimp only [sthen, sblock]); rotate_right; (try exact obs_nil))
    · (subst_vars; simp (disch := omega) only [obs_nil_iff, obs_cons_iff, s_ofNat, s_plus, s_len, s_rd, s_set, s_eql, s_neq, s_lss, s_leq, s_gtr, s_geq, s_not, s_and, s_beq, s_add, s_sub, s_mul, s_wrap, s_diff, s_max, s_min, s_quo, s_rem, s_quo32, s_rem32, s_quo64, s_rem64, s_zerosI, s_cat, wi, wrap_u32', wrap_u64', wrap_u8', decide_eq_true_eq, decide_eq_false_iff_not, beq_iff_eq, beq_eq_false_iff_ne, bne_iff_ne, bne_eq_false_iff_eq, Bool.not_eq_true', Bool.not_eq_false', ne_eq, nc0, nc1, nc4, nc8, Int.toNat_natCast, Int.cast_ofNat_Int, Int.ofNat_eq_natCast, and_true, true_and, s_subL, s_shr32, s_shl32, s_or32]; (repeat' apply And.intro) <;> first | trivial | omega)
    (dsimp only [handed, handedR, sblock, sthen]; rw [if_pos rfl])
    (refine AWP.seq (AWP.go k 100 [] ?_); (conv => { arg 1; cbv }); refine ⟨?_, ?_⟩; rotate_left; (try dsimp only [sthen, sblock]); rotate_right; (try exact obs_nil))
    (refine AWP.go k 100 [] ?_; (conv => { arg 1; cbv }); refine ⟨?_, ?_⟩; rotate_left; (try dsimp only [sthen, sblock]); rotate_right; (try exact obs_nil))
    (refine ⟨fun id => by simp, ?_⟩; conv => { lhs; cbv })
    have : V (65536 : Nat) x = V (65536 : Nat) y := by
      rw [← pre_ge (b := (65536 : Nat)) hNx, ← pre_ge (b := (65536 : Nat)) hNy]
      exact pre_congr fun j _ => h2 j (by omega)
    rw [cm16, cmV_eq this]
    subst_vars; rfl
theorem h_compare : Holds Try.prog 49 (gDD_Ip cm16 whP2) := holds_DD_Ip fun x y hx hy hp => w_compare _ rfl _ rfl _ rfl ⟨h_digit, trivial⟩ x y (whP2_iff.1 hp).1.1 (whP2_iff.1 hp).2.1 (whP2_iff.1 hp).1.2 (whP2_iff.1 hp).2.2
/-- The digits of a number. -/
theorem dgD_ok {a : LI} (da : Dg (4294967296 : Nat) a) (la : a.length ≤ 1048576) : whP (dgD a) = true ∧ V (65536 : Nat) (dgD a) = V (4294967296 : Nat) a ∧ (dgD a).length ≤ 2097152 := by
  have h1 := V_lt da
  have : (dgD a).length ≤ 2 * a.length := digs_len (by decide) (by rw [Nat.pow_mul]; exact h1)
  exact ⟨whP_iff.2 ⟨Dg.digs (by decide) _, by omega⟩, V_digs (by decide) _, by omega⟩
theorem w_rcmp (A : Ar) (hA : A = stdAr) (dg : LI → LI) (hdg : dg = dgD) (s1 : LI → Bool) (hs1 : s1 = sz1) (cm : LI → LI → Int) (hcm : cm = cm16) (wp : LI → LI → Bool) (hwp : wp = whP2)
    (hG : allHold Try.prog [(47, gS_Dp dg s1), (49, gDD_Ip cm wp)]) (a b : LI) (ha : Nm .u32 a) (hb : Nm .u32 b) (la : a.length ≤ 1048576) (lb : b.length ≤ 1048576) :
    FCall Try.prog 16 [.sli .u32 a, .sli .u32 b] (.int .i64 (cmW a b)) := by
  obtain ⟨p1, v1, _⟩ := dgD_ok (nm32 ha) la
  obtain ⟨p2, v2, _⟩ := dgD_ok (nm32 hb) lb
  (refine FCall.exec (ok_of hA hG) (fn := Try.f16) 100 [] rfl rfl rfl (fun _ => ?_); (conv => { arg 1; cbv }); refine ⟨?_, ?_⟩; (try exact obs_nil))
  · subst_vars; simp (disch := omega) only [sz1, whP2, p1, p2, Bool.and_self, obs_nil_iff, obs_cons_iff, s_ofNat, s_plus, s_len, s_rd, s_set, s_eql, s_neq, s_lss, s_leq, s_gtr, s_geq, s_not, s_and, s_beq, s_add, s_sub, s_mul, s_wrap, s_diff, s_max, s_min, s_quo, s_rem, s_quo32, s_rem32, s_quo64, s_rem64, s_zerosI, s_cat, wi, wrap_u32', wrap_u64', wrap_u8', decide_eq_true_eq, decide_eq_false_iff_not, beq_iff_eq, beq_eq_false_iff_ne, bne_iff_ne, bne_eq_false_iff_eq, Bool.not_eq_true', Bool.not_eq_false', ne_eq, nc0, nc1, nc4, nc8, Int.toNat_natCast, Int.cast_ofNat_Int, Int.ofNat_eq_natCast, and_true, true_and, s_subL, s_shr32, s_shl32, s_or32]; omega
  · subst_vars; rw [cm16, v1, v2]; rfl
theorem h_rcmp : Holds Try.prog 16 (gSS_Ip cmW sz2) := holds_SS_Ip fun a b ha hb hp => w_rcmp _ rfl _ rfl _ rfl _ rfl _ rfl ⟨h_digits, h_compare, trivial⟩ a b ha hb (of_decide_eq_true hp).1 (of_decide_eq_true hp).2
end Go.Proofs.SX

namespace Go.Proofs.SX
open Go Go.Proofs
set_option maxRecDepth 100000
set_option linter.unusedVariables false
set_option linter.unusedSimpArgs false
theorem add_stepB {b X Y Z c s P x y : Nat} (h : X + c * P = Y + Z) (hs : s = c + x + y) : X + s % b * P + s / b * (P * b) = (Y + x * P) + (Z + y * P) := by
  have e := Nat.div_add_mod s b
  generalize s / b = q at *
  generalize s % b = r at *
  have e2 : (b * q + r) * P = c * P + x * P + y * P := by rw [e, hs]; simp only [Nat.add_mul]
  rw [Nat.add_mul, Nat.mul_comm b q, Nat.mul_assoc, Nat.mul_comm b P] at e2
  omega
theorem sub_stepB {b X Y Z c c' x y d P : Nat} (h : X + Y = Z + c * P) (e : d + y + c = x + c' * b) : (X + d * P) + (Y + y * P) = (Z + x * P) + c' * (P * b) := by
  have e2 : (d + y + c) * P = (x + c' * b) * P := by rw [e]
  simp only [Nat.add_mul] at e2
  rw [Nat.mul_assoc, Nat.mul_comm b P] at e2
  omega
theorem w_radd (A : Ar) (hA : A = stdAr) (dg : LI → LI) (hdg : dg = dgD) (s1 : LI → Bool) (hs1 : s1 = sz1) (di : LI → Int → Int) (hdi : di = rdW) (np : LI → Int → Bool) (hnp : np = nnP) (wh : LI → LI) (hwh : wh = whW) (wp : LI → Bool) (hwp : wp = whP)
    (hG : allHold Try.prog [(47, gS_Dp dg s1), (51, gDI_Vp A di np), (45, gD_Sp wh wp)]) (a b : LI) (ha : Nm .u32 a) (hb : Nm .u32 b) (la : a.length ≤ 1048576) (lb : b.length ≤ 1048576) :
    FCall Try.prog 19 [.sli .u32 a, .sli .u32 b] (.sli .u32 (adW a b)) := by
  have k := ok_of hA hG
  have px := dgD_ok (nm32 ha) la
  have py := dgD_ok (nm32 hb) lb
  rw [← hdg] at px py
  have dx := (whP_iff.1 px.1).1
  have dy := (whP_iff.1 py.1).1
  have lx := px.2.2
  have ly := py.2.2
  refine FCall.of_body k (fn := Try.f19) rfl rfl rfl rfl (fun _ => ?_)
  (refine AWP.seq (AWP.go k 100 [] ?_); (conv => { arg 1; cbv }); refine ⟨?_, ?_⟩; rotate_left; (try dsimp only [sthen, sblock]); rotate_right; (try exact obs_nil))
  (refine AWP.seq (AWP.go k 100 [] ?_); (conv => { arg 1; cbv }); refine ⟨?_, ?_⟩; rotate_left; (try dsimp only [sthen, sblock]); rotate_right; (try exact obs_nil))
  · subst_vars; simp (disch := omega) only [sz1, obs_nil_iff, obs_cons_iff, s_ofNat, s_plus, s_len, s_rd, s_set, s_eql, s_neq, s_lss, s_leq, s_gtr, s_geq, s_not, s_and, s_beq, s_add, s_sub, s_mul, s_wrap, s_diff, s_max, s_min, s_quo, s_rem, s_quo32, s_rem32, s_quo64, s_rem64, s_zerosI, s_cat, wi, wrap_u32', wrap_u64', wrap_u8', decide_eq_true_eq, decide_eq_false_iff_not, beq_iff_eq, beq_eq_false_iff_ne, bne_iff_ne, bne_eq_false_iff_eq, Bool.not_eq_true', Bool.not_eq_false', ne_eq, nc0, nc1, nc4, nc8, Int.toNat_natCast, Int.cast_ofNat_Int, Int.ofNat_eq_natCast, and_true, true_and, s_subL, s_shr32, s_shl32, s_or32]; omega
  (refine AWP.seq (AWP.go k 100 [] ?_); (conv => { arg 1; cbv }); refine ⟨?_, ?_⟩; rotate_left; (try dsimp only [sthen, sblock]); rotate_right; (try exact obs_nil))
  (refine AWP.seq (AWP.go k 100 [] ?_); (conv => { arg 1; cbv }); refine ⟨?_, ?_⟩; rotate_left; (try dsimp only [sthen, sblock]); rotate_right; (try exact obs_nil))
  refine AWP.seq ?_
  (refine AWP.seq (AWP.go k 100 [] ?_); (conv => { arg 1; cbv }); refine ⟨?_, ?_⟩; rotate_left; (try dsimp only [sthen, sblock]); rotate_right; (try exact obs_nil))
  rw [adW, ← px.2.1, ← py.2.1]
  clear hdg
  generalize dg a = x at *
  generalize dg b = y at *
  obtain ⟨N, hN, hNx, hNy⟩ : ∃ N : Nat, (if (y.length : Int) > x.length then (y.length : Int) else x.length) + 1 = (N : Int) ∧ x.length < N ∧ y.length < N := ⟨max x.length y.length + 1, by omega⟩
  have hNm : N ≤ 2097153 := by omega
  refine AWP.block ?_
  refine AWP.loopQ (fun z : Nat × Nat × LI => ⟨mkF [(5, .sli .u64 x), (6, .sli .u64 y), (7, .osl 0 0 (A.len z.2.2)), (8, .int .u64 z.2.1), (9, .int .i64 z.1)] 43 0, [.row .u64 z.2.2]⟩)
    (fun z => z.1 ≤ N ∧ z.2.1 ≤ 1 ∧ z.2.2.length = z.1 ∧ Dg (65536 : Nat) z.2.2 ∧ V (65536 : Nat) z.2.2 + z.2.1 * (65536 : Nat) ^ z.1 = pre (65536 : Nat) x z.1 + pre (65536 : Nat) y z.1) (fun z => N - z.1) (0, 0, []) ?_ ?_ ?_
  · subst_vars; (refine ⟨?_, ?_, rfl⟩ <;> repeat' (first | exact .nil | exact .any _ | exact .gone _ | exact .same _ | exact .lit _ _ | exact .nil _ | refine .cons ?_ ?_ | exact AvLe.int_eq (by first | rfl | (simp only [Int.ofNat_eq_natCast]; omega) | omega) | exact AvLe.lit_eq (by first | rfl | (simp only [Int.ofNat_eq_natCast]; omega) | omega) | exact AvLe.osl_eq (by first | rfl | (simp only [Int.ofNat_eq_natCast]; omega) | omega) (by first | rfl | (simp only [Int.ofNat_eq_natCast]; omega) | omega | (simp; done) | (simp; omega)) | refine BlLe.row_eq ?_))
  · exact ⟨Nat.zero_le _, Nat.zero_le _, rfl, Dg.nil (by decide), rfl⟩
  rintro ⟨i, c, out⟩ ⟨h1, h2, h3, h4, h5⟩
  dsimp only at h1 h2 h3 h4 h5
  have rx := dx i
  have ry := dy i
  by_cases d : i < N
  · (refine AWP.seq (AWP.go k 100 [true] ?_); (conv => { arg 1; cbv }); refine ⟨?_, ?_⟩; rotate_left; (try dsimp only [sthen, sblock]); rotate_right; (try exact obs_nil))
    · subst_vars; simp (disch := omega) only [hN, obs_nil_iff, obs_cons_iff, s_ofNat, s_plus, s_len, s_rd, s_set, s_eql, s_neq, s_lss, s_leq, s_gtr, s_geq, s_not, s_and, s_beq, s_add, s_sub, s_mul, s_wrap, s_diff, s_max, s_min, s_quo, s_rem, s_quo32, s_rem32, s_quo64, s_rem64, s_zerosI, s_cat, wi, wrap_u32', wrap_u64', wrap_u8', decide_eq_true_eq, decide_eq_false_iff_not, beq_iff_eq, beq_eq_false_iff_ne, bne_iff_ne, bne_eq_false_iff_eq, Bool.not_eq_true', Bool.not_eq_false', ne_eq, nc0, nc1, nc4, nc8, Int.toNat_natCast, Int.cast_ofNat_Int, Int.ofNat_eq_natCast, and_true, true_and, s_subL, s_shr32, s_shl32, s_or32]; omega
    (refine AWP.seq (AWP.go k 100 [] ?_); (conv => { arg 1; cbv }); refine ⟨?_, ?_⟩; rotate_left; (try dsimp only [sthen, sblock]); rotate_right; (try exact obs_nil))
    · subst_vars; ((simp only [s_plus, s_len, s_ofNat, nc0, nc1, nc2, nc4, s_sub_all, s_sub1, s_sub2, s_sub4, s_cat]) <;> (try simp (disch := omega) only [Int.emod_eq_of_lt, List.length_cons, List.length_nil, List.length_append, obs_nil_iff, obs_cons_iff, s_ofNat, s_plus, s_len, s_rd, s_set, s_eql, s_neq, s_lss, s_leq, s_gtr, s_geq, s_not, s_and, s_beq, s_add, s_sub, s_mul, s_wrap, s_diff, s_max, s_min, s_quo, s_rem, s_quo32, s_rem32, s_quo64, s_rem64, s_zerosI, s_cat, wi, wrap_u32', wrap_u64', wrap_u8', decide_eq_true_eq, decide_eq_false_iff_not, beq_iff_eq, beq_eq_false_iff_ne, bne_iff_ne, bne_eq_false_iff_eq, Bool.not_eq_true', Bool.not_eq_false', ne_eq, nc0, nc1, nc4, nc8, Int.toNat_natCast, Int.cast_ofNat_Int, Int.ofNat_eq_natCast, and_true, true_and, s_subL, s_shr32, s_shl32, s_or32])); simp (disch := omega) only [nnP, obs_nil_iff, obs_cons_iff, s_ofNat, s_plus, s_len, s_rd, s_set, s_eql, s_neq, s_lss, s_leq, s_gtr, s_geq, s_not, s_and, s_beq, s_add, s_sub, s_mul, s_wrap, s_diff, s_max, s_min, s_quo, s_rem, s_quo32, s_rem32, s_quo64, s_rem64, s_zerosI, s_cat, wi, wrap_u32', wrap_u64', wrap_u8', decide_eq_true_eq, decide_eq_false_iff_not, beq_iff_eq, beq_eq_false_iff_ne, bne_iff_ne, bne_eq_false_iff_eq, Bool.not_eq_true', Bool.not_eq_false', ne_eq, nc0, nc1, nc4, nc8, Int.toNat_natCast, Int.cast_ofNat_Int, Int.ofNat_eq_natCast, and_true, true_and, s_subL, s_shr32, s_shl32, s_or32]; omega
    (refine AWP.go k 100 [] ?_; (conv => { arg 1; cbv }); refine ⟨?_, ?_⟩; rotate_left; (try dsimp only [sthen, sblock]); rotate_right; (try exact obs_nil))
    refine handedR.mk (i + 1, (c + (x.getD i 0).toNat + (y.getD i 0).toNat) / 65536, out ++ [(((c + (x.getD i 0).toNat + (y.getD i 0).toNat) % 65536 : Nat) : Int)]) [2] [.gone, .gone, .row .u64 (out ++ [(((c + (x.getD i 0).toNat + (y.getD i 0).toNat) % 65536 : Nat) : Int)])] ?_ ⟨rfl, ⟨.inr rfl, trivial⟩, rfl⟩ ?_ ?_
    · subst hA hdi
      ((simp only [s_plus, s_len, s_ofNat, nc0, nc1, nc2, nc4, s_sub_all, s_sub1, s_sub2, s_sub4, s_cat]) <;> (try simp (disch := omega) only [Int.emod_eq_of_lt, List.length_cons, List.length_nil, List.length_append, obs_nil_iff, obs_cons_iff, s_ofNat, s_plus, s_len, s_rd, s_set, s_eql, s_neq, s_lss, s_leq, s_gtr, s_geq, s_not, s_and, s_beq, s_add, s_sub, s_mul, s_wrap, s_diff, s_max, s_min, s_quo, s_rem, s_quo32, s_rem32, s_quo64, s_rem64, s_zerosI, s_cat, wi, wrap_u32', wrap_u64', wrap_u8', decide_eq_true_eq, decide_eq_false_iff_not, beq_iff_eq, beq_eq_false_iff_ne, bne_iff_ne, bne_eq_false_iff_eq, Bool.not_eq_true', Bool.not_eq_false', ne_eq, nc0, nc1, nc4, nc8, Int.toNat_natCast, Int.cast_ofNat_Int, Int.ofNat_eq_natCast, and_true, true_and, s_subL, s_shr32, s_shl32, s_or32]))
      simp (disch := omega) only [rdW, Int.emod_eq_of_lt, obs_nil_iff, obs_cons_iff, s_ofNat, s_plus, s_len, s_rd, s_set, s_eql, s_neq, s_lss, s_leq, s_gtr, s_geq, s_not, s_and, s_beq, s_add, s_sub, s_mul, s_wrap, s_diff, s_max, s_min, s_quo, s_rem, s_quo32, s_rem32, s_quo64, s_rem64, s_zerosI, s_cat, wi, wrap_u32', wrap_u64', wrap_u8', decide_eq_true_eq, decide_eq_false_iff_not, beq_iff_eq, beq_eq_false_iff_ne, bne_iff_ne, bne_eq_false_iff_eq, Bool.not_eq_true', Bool.not_eq_false', ne_eq, nc0, nc1, nc4, nc8, Int.toNat_natCast, Int.cast_ofNat_Int, Int.ofNat_eq_natCast, and_true, true_and, s_subL, s_shr32, s_shl32, s_or32]
      (refine ⟨?_, ?_, rfl⟩ <;> repeat' (first | exact .nil | exact .any _ | exact .gone _ | exact .same _ | exact .lit _ _ | exact .nil _ | refine .cons ?_ ?_ | exact AvLe.int_eq (by first | rfl | (simp only [Int.ofNat_eq_natCast]; omega) | omega) | exact AvLe.lit_eq (by first | rfl | (simp only [Int.ofNat_eq_natCast]; omega) | omega) | exact AvLe.osl_eq (by first | rfl | (simp only [Int.ofNat_eq_natCast]; omega) | omega) (by first | rfl | (simp only [Int.ofNat_eq_natCast]; omega) | omega | (simp; done) | (simp; omega)) | refine BlLe.row_eq ?_))
      congr 2; omega
    · dsimp only
      have hd : Dg (65536 : Nat) (out ++ [(((c + (x.getD i 0).toNat + (y.getD i 0).toNat) % 65536 : Nat) : Int)]) := h4.app (by decide) (Dg.cons ⟨by omega, by omega⟩ (Dg.nil (by decide)))
      refine ⟨by omega, by omega, by simp [h3], hd, ?_⟩
      rw [V_app, h3, V_cons, V_nil, Nat.mul_zero, Nat.add_zero, Int.toNat_natCast, pre_succ, pre_succ, Nat.pow_succ]
      exact add_stepB h5 rfl
    · dsimp only; omega
  · have hi : i = N := by omega
    subst hi
    have pw : whP out = true := whP_iff.2 ⟨h4, by omega⟩
    (refine AWP.seq (AWP.go k 100 [false] ?_); (conv => { arg 1; cbv }); refine ⟨?_, ?_⟩; rotate_left; (try dsimp only [sthen, sblock]); rotate_right; (try exact obs_nil))
    · subst_vars; simp (disch := omega) only [hN, obs_nil_iff, obs_cons_iff, s_ofNat, s_plus, s_len, s_rd, s_set, s_eql, s_neq, s_lss, s_leq, s_gtr, s_geq, s_not, s_and, s_beq, s_add, s_sub, s_mul, s_wrap, s_diff, s_max, s_min, s_quo, s_rem, s_quo32, s_rem32, s_quo64, s_rem64, s_zerosI, s_cat, wi, wrap_u32', wrap_u64', wrap_u8', decide_eq_true_eq, decide_eq_false_iff_not, beq_iff_eq, beq_eq_false_iff_ne, bne_iff_ne, bne_eq_false_iff_eq, Bool.not_eq_true', Bool.not_eq_false', ne_eq, nc0, nc1, nc4, nc8, Int.toNat_natCast, Int.cast_ofNat_Int, Int.ofNat_eq_natCast, and_true, true_and, s_subL, s_shr32, s_shl32, s_or32]; omega
    (dsimp only [handed, handedR, sblock, sthen]; rw [if_pos rfl])
    (refine AWP.seq (AWP.go k 100 [] ?_); (conv => { arg 1; cbv }); refine ⟨?_, ?_⟩; rotate_left; (try dsimp only [sthen, sblock]); rotate_right; (try exact obs_nil))
    · subst_vars; ((simp only [s_plus, s_len, s_ofNat, nc0, nc1, nc2, nc4, s_sub_all, s_sub1, s_sub2, s_sub4, s_cat]) <;> (try simp (disch := omega) only [Int.emod_eq_of_lt, List.length_cons, List.length_nil, List.length_append, obs_nil_iff, obs_cons_iff, s_ofNat, s_plus, s_len, s_rd, s_set, s_eql, s_neq, s_lss, s_leq, s_gtr, s_geq, s_not, s_and, s_beq, s_add, s_sub, s_mul, s_wrap, s_diff, s_max, s_min, s_quo, s_rem, s_quo32, s_rem32, s_quo64, s_rem64, s_zerosI, s_cat, wi, wrap_u32', wrap_u64', wrap_u8', decide_eq_true_eq, decide_eq_false_iff_not, beq_iff_eq, beq_eq_false_iff_ne, bne_iff_ne, bne_eq_false_iff_eq, Bool.not_eq_true', Bool.not_eq_false', ne_eq, nc0, nc1, nc4, nc8, Int.toNat_natCast, Int.cast_ofNat_Int, Int.ofNat_eq_natCast, and_true, true_and, s_subL, s_shr32, s_shl32, s_or32])); exact pw
    (refine AWP.go k 100 [] ?_; (conv => { arg 1; cbv }); refine ⟨?_, ?_⟩; rotate_left; (try dsimp only [sthen, sblock]); rotate_right; (try exact obs_nil))
    (refine ⟨fun id => by simp, ?_⟩; conv => { lhs; cbv })
    have e : V (65536 : Nat) out = V (65536 : Nat) x + V (65536 : Nat) y := by
      rw [pre_ge (Nat.le_of_lt hNx), pre_ge (Nat.le_of_lt hNy)] at h5
      have h6 := V_lt dx
      have h7 := V_lt dy
      have h8 : (65536 : Nat) ^ x.length ≤ (65536 : Nat) ^ (i - 1) := Nat.pow_le_pow_right (by decide) (by omega)
      have h9 : (65536 : Nat) ^ y.length ≤ (65536 : Nat) ^ (i - 1) := Nat.pow_le_pow_right (by decide) (by omega)
      have h10 : (65536 : Nat) ^ i = (65536 : Nat) ^ (i - 1) * (65536 : Nat) := by rw [← Nat.pow_succ]; congr 1; omega
      rw [h10] at h5
      generalize (65536 : Nat) ^ (i - 1) = M at *
      obtain rfl : c = 0 := by
        apply Classical.byContradiction; intro hc
        obtain rfl : c = 1 := by omega
        omega
      omega
    rw [← e]
    subst hA hwh
    ((simp only [s_plus, s_len, s_ofNat, nc0, nc1, nc2, nc4, s_sub_all, s_sub1, s_sub2, s_sub4, s_cat]) <;> (try simp (disch := omega) only [Int.emod_eq_of_lt, List.length_cons, List.length_nil, List.length_append, obs_nil_iff, obs_cons_iff, s_ofNat, s_plus, s_len, s_rd, s_set, s_eql, s_neq, s_lss, s_leq, s_gtr, s_geq, s_not, s_and, s_beq, s_add, s_sub, s_mul, s_wrap, s_diff, s_max, s_min, s_quo, s_rem, s_quo32, s_rem32, s_quo64, s_rem64, s_zerosI, s_cat, wi, wrap_u32', wrap_u64', wrap_u8', decide_eq_true_eq, decide_eq_false_iff_not, beq_iff_eq, beq_eq_false_iff_ne, bne_iff_ne, bne_eq_false_iff_eq, Bool.not_eq_true', Bool.not_eq_false', ne_eq, nc0, nc1, nc4, nc8, Int.toNat_natCast, Int.cast_ofNat_Int, Int.ofNat_eq_natCast, and_true, true_and, s_subL, s_shr32, s_shl32, s_or32]))
    rfl
theorem h_radd : Holds Try.prog 19 (gSS_Sp adW sz2) := holds_SS_Sp fun a b ha hb hp => w_radd _ rfl _ rfl _ rfl _ rfl _ rfl _ rfl _ rfl ⟨h_digits, h_digit, h_whole, trivial⟩ a b ha hb (of_decide_eq_true hp).1 (of_decide_eq_true hp).2
def leD (x y : LI) : LI := D (V (65536 : Nat) x - V (65536 : Nat) y)
def leDP (x y : LI) : Bool := whP2 x y && decide (V (65536 : Nat) y ≤ V (65536 : Nat) x)
theorem w_less (A : Ar) (hA : A = stdAr) (di : LI → Int → Int) (hdi : di = rdW) (np : LI → Int → Bool) (hnp : np = nnP) (tr : LI → LI) (htr : tr = trD)
    (hG : allHold Try.prog [(51, gDI_Vp A di np), (69, gD_D tr)]) (x y : LI) (dx : Dg (65536 : Nat) x) (lx : x.length ≤ 4194304) (dy : Dg (65536 : Nat) y) (hle : V (65536 : Nat) y ≤ V (65536 : Nat) x) :
    FCall Try.prog 46 [.sli .u64 x, .sli .u64 y] (.sli .u64 (leD x y)) := by
  have k := ok_of hA hG
  refine FCall.of_body k (fn := Try.f46) rfl rfl rfl rfl (fun _ => ?_)
  (refine AWP.seq (AWP.go k 100 [] ?_); (conv => { arg 1; cbv }); refine ⟨?_, ?_⟩; rotate_left; (try dsimp only [sthen, sblock]); rotate_right; (try exact obs_nil))
  (refine AWP.seq (AWP.go k 100 [] ?_); (conv => { arg 1; cbv }); refine ⟨?_, ?_⟩; rotate_left; (try dsimp only [sthen, sblock]); rotate_right; (try exact obs_nil))
  (refine AWP.seq (AWP.go k 100 [] ?_); (conv => { arg 1; cbv }); refine ⟨?_, ?_⟩; rotate_left; (try dsimp only [sthen, sblock]); rotate_right; (try exact obs_nil))
  refine AWP.seq ?_
  (refine AWP.seq (AWP.go k 100 [] ?_); (conv => { arg 1; cbv }); refine ⟨?_, ?_⟩; rotate_left; (try dsimp only [sthen, sblock]); rotate_right; (try exact obs_nil))
  refine AWP.block ?_
  refine AWP.loopQ (fun z : Nat × Nat × LI => ⟨mkF [(0, .sli .u64 x), (1, .sli .u64 y), (5, .osl 0 0 (A.len z.2.2)), (6, .int .u64 z.2.1), (7, .int .i64 z.1)] 37 0, [.row .u64 z.2.2]⟩)
    (fun z => z.1 ≤ x.length ∧ z.2.1 ≤ 1 ∧ z.2.2.length = z.1 ∧ Dg (65536 : Nat) z.2.2 ∧ V (65536 : Nat) z.2.2 + pre (65536 : Nat) y z.1 = pre (65536 : Nat) x z.1 + z.2.1 * (65536 : Nat) ^ z.1) (fun z => x.length - z.1) (0, 0, []) ?_ ?_ ?_
  · subst_vars; (refine ⟨?_, ?_, rfl⟩ <;> repeat' (first | exact .nil | exact .any _ | exact .gone _ | exact .same _ | exact .lit _ _ | exact .nil _ | refine .cons ?_ ?_ | exact AvLe.int_eq (by first | rfl | (simp only [Int.ofNat_eq_natCast]; omega) | omega) | exact AvLe.lit_eq (by first | rfl | (simp only [Int.ofNat_eq_natCast]; omega) | omega) | exact AvLe.osl_eq (by first | rfl | (simp only [Int.ofNat_eq_natCast]; omega) | omega) (by first | rfl | (simp only [Int.ofNat_eq_natCast]; omega) | omega | (simp; done) | (simp; omega)) | refine BlLe.row_eq ?_))
  · exact ⟨Nat.zero_le _, Nat.zero_le _, rfl, Dg.nil (by decide), rfl⟩
  rintro ⟨i, c, out⟩ ⟨h1, h2, h3, h4, h5⟩
  dsimp only at h1 h2 h3 h4 h5
  have rx := dx i
  have ry := dy i
  by_cases d : i < x.length
  · obtain ⟨v, hv⟩ : ∃ v : Nat, v = (x.getD i 0).toNat + 65536 - (y.getD i 0).toNat - c := ⟨_, rfl⟩
    (refine AWP.seq (AWP.go k 100 [true] ?_); (conv => { arg 1; cbv }); refine ⟨?_, ?_⟩; rotate_left; (try dsimp only [sthen, sblock]); rotate_right; (try exact obs_nil))
    · (subst_vars; simp (disch := omega) only [obs_nil_iff, obs_cons_iff, s_ofNat, s_plus, s_len, s_rd, s_set, s_eql, s_neq, s_lss, s_leq, s_gtr, s_geq, s_not, s_and, s_beq, s_add, s_sub, s_mul, s_wrap, s_diff, s_max, s_min, s_quo, s_rem, s_quo32, s_rem32, s_quo64, s_rem64, s_zerosI, s_cat, wi, wrap_u32', wrap_u64', wrap_u8', decide_eq_true_eq, decide_eq_false_iff_not, beq_iff_eq, beq_eq_false_iff_ne, bne_iff_ne, bne_eq_false_iff_eq, Bool.not_eq_true', Bool.not_eq_false', ne_eq, nc0, nc1, nc4, nc8, Int.toNat_natCast, Int.cast_ofNat_Int, Int.ofNat_eq_natCast, and_true, true_and, s_subL, s_shr32, s_shl32, s_or32]; (repeat' apply And.intro) <;> first | trivial | omega)
    (refine AWP.seq (AWP.go k 100 [] ?_); (conv => { arg 1; cbv }); refine ⟨?_, ?_⟩; rotate_left; (try dsimp only [sthen, sblock]); rotate_right; (try exact obs_nil))
    · subst hA hdi hnp; ((simp only [s_plus, s_len, s_ofNat, nc0, nc1, nc2, nc4, s_sub_all, s_sub1, s_sub2, s_sub4, s_cat]) <;> (try simp (disch := omega) only [Int.emod_eq_of_lt, List.length_cons, List.length_nil, List.length_append, obs_nil_iff, obs_cons_iff, s_ofNat, s_plus, s_len, s_rd, s_set, s_eql, s_neq, s_lss, s_leq, s_gtr, s_geq, s_not, s_and, s_beq, s_add, s_sub, s_mul, s_wrap, s_diff, s_max, s_min, s_quo, s_rem, s_quo32, s_rem32, s_quo64, s_rem64, s_zerosI, s_cat, wi, wrap_u32', wrap_u64', wrap_u8', decide_eq_true_eq, decide_eq_false_iff_not, beq_iff_eq, beq_eq_false_iff_ne, bne_iff_ne, bne_eq_false_iff_eq, Bool.not_eq_true', Bool.not_eq_false', ne_eq, nc0, nc1, nc4, nc8, Int.toNat_natCast, Int.cast_ofNat_Int, Int.ofNat_eq_natCast, and_true, true_and, s_subL, s_shr32, s_shl32, s_or32])); simp (disch := omega) only [nnP, obs_nil_iff, obs_cons_iff, s_ofNat, s_plus, s_len, s_rd, s_set, s_eql, s_neq, s_lss, s_leq, s_gtr, s_geq, s_not, s_and, s_beq, s_add, s_sub, s_mul, s_wrap, s_diff, s_max, s_min, s_quo, s_rem, s_quo32, s_rem32, s_quo64, s_rem64, s_zerosI, s_cat, wi, wrap_u32', wrap_u64', wrap_u8', decide_eq_true_eq, decide_eq_false_iff_not, beq_iff_eq, beq_eq_false_iff_ne, bne_iff_ne, bne_eq_false_iff_eq, Bool.not_eq_true', Bool.not_eq_false', ne_eq, nc0, nc1, nc4, nc8, Int.toNat_natCast, Int.cast_ofNat_Int, Int.ofNat_eq_natCast, and_true, true_and, s_subL, s_shr32, s_shl32, s_or32]; omega
    (refine AWP.go k 100 [] ?_; (conv => { arg 1; cbv }); refine ⟨?_, ?_⟩; rotate_left; (try dsimp only [sthen, sblock]); rotate_right; (try exact obs_nil))
    refine handedR.mk (i + 1, 1 - v / 65536, out ++ [((v % 65536 : Nat) : Int)]) [2] [.gone, .gone, .row .u64 (out ++ [((v % 65536 : Nat) : Int)])] ?_ ⟨rfl, ⟨.inr rfl, trivial⟩, rfl⟩ ?_ ?_
    · have ev : x.getD i 0 + 65536 - y.getD i 0 - c = (v : Int) := by omega
      subst hA hdi
      ((simp only [s_plus, s_len, s_ofNat, nc0, nc1, nc2, nc4, s_sub_all, s_sub1, s_sub2, s_sub4, s_cat]) <;> (try simp (disch := omega) only [Int.emod_eq_of_lt, List.length_cons, List.length_nil, List.length_append, obs_nil_iff, obs_cons_iff, s_ofNat, s_plus, s_len, s_rd, s_set, s_eql, s_neq, s_lss, s_leq, s_gtr, s_geq, s_not, s_and, s_beq, s_add, s_sub, s_mul, s_wrap, s_diff, s_max, s_min, s_quo, s_rem, s_quo32, s_rem32, s_quo64, s_rem64, s_zerosI, s_cat, wi, wrap_u32', wrap_u64', wrap_u8', decide_eq_true_eq, decide_eq_false_iff_not, beq_iff_eq, beq_eq_false_iff_ne, bne_iff_ne, bne_eq_false_iff_eq, Bool.not_eq_true', Bool.not_eq_false', ne_eq, nc0, nc1, nc4, nc8, Int.toNat_natCast, Int.cast_ofNat_Int, Int.ofNat_eq_natCast, and_true, true_and, s_subL, s_shr32, s_shl32, s_or32]))
      simp (disch := omega) only [rdW, Int.emod_eq_of_lt, ev, obs_nil_iff, obs_cons_iff, s_ofNat, s_plus, s_len, s_rd, s_set, s_eql, s_neq, s_lss, s_leq, s_gtr, s_geq, s_not, s_and, s_beq, s_add, s_sub, s_mul, s_wrap, s_diff, s_max, s_min, s_quo, s_rem, s_quo32, s_rem32, s_quo64, s_rem64, s_zerosI, s_cat, wi, wrap_u32', wrap_u64', wrap_u8', decide_eq_true_eq, decide_eq_false_iff_not, beq_iff_eq, beq_eq_false_iff_ne, bne_iff_ne, bne_eq_false_iff_eq, Bool.not_eq_true', Bool.not_eq_false', ne_eq, nc0, nc1, nc4, nc8, Int.toNat_natCast, Int.cast_ofNat_Int, Int.ofNat_eq_natCast, and_true, true_and, s_subL, s_shr32, s_shl32, s_or32]
      (refine ⟨?_, ?_, rfl⟩ <;> repeat' (first | exact .nil | exact .any _ | exact .gone _ | exact .same _ | exact .lit _ _ | exact .nil _ | refine .cons ?_ ?_ | exact AvLe.int_eq (by first | rfl | (simp only [Int.ofNat_eq_natCast]; omega) | omega) | exact AvLe.lit_eq (by first | rfl | (simp only [Int.ofNat_eq_natCast]; omega) | omega) | exact AvLe.osl_eq (by first | rfl | (simp only [Int.ofNat_eq_natCast]; omega) | omega) (by first | rfl | (simp only [Int.ofNat_eq_natCast]; omega) | omega | (simp; done) | (simp; omega)) | refine BlLe.row_eq ?_))
    · dsimp only
      have hd : Dg (65536 : Nat) (out ++ [((v % 65536 : Nat) : Int)]) := h4.app (by decide) (Dg.cons ⟨by omega, by omega⟩ (Dg.nil (by decide)))
      refine ⟨by omega, by omega, by simp [h3], hd, ?_⟩
      rw [V_app, h3, V_cons, V_nil, Nat.mul_zero, Nat.add_zero, Int.toNat_natCast, pre_succ, pre_succ, Nat.pow_succ]
      exact sub_stepB h5 (by omega)
    · dsimp only; omega
  · have hi : i = x.length := by omega
    (refine AWP.seq (AWP.go k 100 [false] ?_); (conv => { arg 1; cbv }); refine ⟨?_, ?_⟩; rotate_left; (try dsimp only [sthen, sblock]); rotate_right; (try exact obs_nil))
    · (subst_vars; simp (disch := omega) only [obs_nil_iff, obs_cons_iff, s_ofNat, s_plus, s_len, s_rd, s_set, s_eql, s_neq, s_lss, s_leq, s_gtr, s_geq, s_not, s_and, s_beq, s_add, s_sub, s_mul, s_wrap, s_diff, s_max, s_min, s_quo, s_rem, s_quo32, s_rem32, s_quo64, s_rem64, s_zerosI, s_cat, wi, wrap_u32', wrap_u64', wrap_u8', decide_eq_true_eq, decide_eq_false_iff_not, beq_iff_eq, beq_eq_false_iff_ne, bne_iff_ne, bne_eq_false_iff_eq, Bool.not_eq_true', Bool.not_eq_false', ne_eq, nc0, nc1, nc4, nc8, Int.toNat_natCast, Int.cast_ofNat_Int, Int.ofNat_eq_natCast, and_true, true_and, s_subL, s_shr32, s_shl32, s_or32]; (repeat' apply And.intro) <;> first | trivial | omega)
    (dsimp only [handed, handedR, sblock, sthen]; rw [if_pos rfl])
    (refine AWP.seq (AWP.go k 100 [] ?_); (conv => { arg 1; cbv }); refine ⟨?_, ?_⟩; rotate_left; (try dsimp only [sthen, sblock]); rotate_right; (try exact obs_nil))
    (refine AWP.go k 100 [] ?_; (conv => { arg 1; cbv }); refine ⟨?_, ?_⟩; rotate_left; (try dsimp only [sthen, sblock]); rotate_right; (try exact obs_nil))
    (refine ⟨fun id => by simp, ?_⟩; conv => { lhs; cbv })
    subst hi
    have e : V (65536 : Nat) out = V (65536 : Nat) x - V (65536 : Nat) y := by
      have e1 : pre (65536 : Nat) x x.length = V (65536 : Nat) x := rfl
      have h6 := V_lt dx
      have e2 : pre (65536 : Nat) y x.length = V (65536 : Nat) y := by
        rw [pre_mod dy]; exact Nat.mod_eq_of_lt (by omega)
      have h7 := V_lt h4
      rw [h3] at h7
      rw [e1, e2] at h5
      generalize (65536 : Nat) ^ x.length = M at *
      obtain rfl : c = 0 := by
        apply Classical.byContradiction; intro hc
        obtain rfl : c = 1 := by omega
        omega
      omega
    rw [leD, ← e, D, ← trD_16 h4]
    subst hA htr
    ((simp only [s_plus, s_len, s_ofNat, nc0, nc1, nc2, nc4, s_sub_all, s_sub1, s_sub2, s_sub4, s_cat]) <;> (try simp (disch := omega) only [Int.emod_eq_of_lt, List.length_cons, List.length_nil, List.length_append, obs_nil_iff, obs_cons_iff, s_ofNat, s_plus, s_len, s_rd, s_set, s_eql, s_neq, s_lss, s_leq, s_gtr, s_geq, s_not, s_and, s_beq, s_add, s_sub, s_mul, s_wrap, s_diff, s_max, s_min, s_quo, s_rem, s_quo32, s_rem32, s_quo64, s_rem64, s_zerosI, s_cat, wi, wrap_u32', wrap_u64', wrap_u8', decide_eq_true_eq, decide_eq_false_iff_not, beq_iff_eq, beq_eq_false_iff_ne, bne_iff_ne, bne_eq_false_iff_eq, Bool.not_eq_true', Bool.not_eq_false', ne_eq, nc0, nc1, nc4, nc8, Int.toNat_natCast, Int.cast_ofNat_Int, Int.ofNat_eq_natCast, and_true, true_and, s_subL, s_shr32, s_shl32, s_or32]))
theorem h_less : Holds Try.prog 46 (gDD_Dp leD leDP) := holds_DD_Dp fun x y hx hy hp => by
  unfold leDP at hp
  rw [Bool.and_eq_true, decide_eq_true_eq, whP2_iff] at hp
  exact w_less _ rfl _ rfl _ rfl _ rfl ⟨h_digit, h_rtrim, trivial⟩ x y hp.1.1.1 hp.1.1.2 hp.1.2.1 hp.2
theorem w_rsub (A : Ar) (hA : A = stdAr) (cm : LI → LI → Int) (hcm : cm = cmW) (s2 : LI → LI → Bool) (hs2 : s2 = sz2) (dg : LI → LI) (hdg : dg = dgD) (s1 : LI → Bool) (hs1 : s1 = sz1) (le : LI → LI → LI) (hle : le = leD) (lp : LI → LI → Bool) (hlp : lp = leDP) (wh : LI → LI) (hwh : wh = whW) (wp : LI → Bool) (hwp : wp = whP)
    (hG : allHold Try.prog [(16, gSS_Ip cm s2), (47, gS_Dp dg s1), (46, gDD_Dp le lp), (45, gD_Sp wh wp)]) (a b : LI) (ha : Nm .u32 a) (hb : Nm .u32 b) (la : a.length ≤ 1048576) (lb : b.length ≤ 1048576) :
    FCall Try.prog 14 [.sli .u32 a, .sli .u32 b] (.tup [.sli .u32 (sbW a b), .int .i64 (sbE a b)]) := by
  have k := ok_of hA hG
  obtain ⟨p1, v1, _⟩ := dgD_ok (nm32 ha) la
  obtain ⟨p2, v2, _⟩ := dgD_ok (nm32 hb) lb
  by_cases c : V (4294967296 : Nat) a < V (4294967296 : Nat) b
  · have e : cmW a b = -1 := cmV_lt c
    rw [sbW, sbE, if_pos c, if_pos c]
    refine FCall.nil2 (k := .u8) ?_
    (refine FCall.exec k (fn := Try.f14) 100 [true] rfl rfl rfl (fun _ => ?_); (conv => { arg 1; cbv }); refine ⟨?_, ?_⟩; (try exact obs_nil))
    · subst_vars; simp (disch := omega) only [sz2, obs_nil_iff, obs_cons_iff, s_ofNat, s_plus, s_len, s_rd, s_set, s_eql, s_neq, s_lss, s_leq, s_gtr, s_geq, s_not, s_and, s_beq, s_add, s_sub, s_mul, s_wrap, s_diff, s_max, s_min, s_quo, s_rem, s_quo32, s_rem32, s_quo64, s_rem64, s_zerosI, s_cat, wi, wrap_u32', wrap_u64', wrap_u8', decide_eq_true_eq, decide_eq_false_iff_not, beq_iff_eq, beq_eq_false_iff_ne, bne_iff_ne, bne_eq_false_iff_eq, Bool.not_eq_true', Bool.not_eq_false', ne_eq, nc0, nc1, nc4, nc8, Int.toNat_natCast, Int.cast_ofNat_Int, Int.ofNat_eq_natCast, and_true, true_and, s_subL, s_shr32, s_shl32, s_or32]; omega
    · subst_vars; rfl
  · have e : 0 ≤ cmW a b := by unfold cmW cmV; rw [if_neg c]; split <;> omega
    rw [sbW, sbE, if_neg c, if_neg c]
    have p3 : leDP (dgD a) (dgD b) = true := by
      unfold leDP whP2; rw [p1, p2, v1, v2]; simp; omega
    have v3 : V (65536 : Nat) (leD (dgD a) (dgD b)) = V (4294967296 : Nat) a - V (4294967296 : Nat) b := by
      unfold leD D; rw [V_digs (by decide), v1, v2]
    have p4 : whP (leD (dgD a) (dgD b)) = true := by
      refine whP_iff.2 ⟨Dg.digs (by decide) _, Nat.le_trans (digs_len (by decide) ?_) (whP_iff.1 p1).2⟩
      have := V_lt (whP_iff.1 p1).1
      omega
    (refine FCall.exec k (fn := Try.f14) 100 [false] rfl rfl rfl (fun _ => ?_); (conv => { arg 1; cbv }); refine ⟨?_, ?_⟩; (try exact obs_nil))
    · subst_vars; simp (disch := omega) only [sz1, sz2, p3, p4, obs_nil_iff, obs_cons_iff, s_ofNat, s_plus, s_len, s_rd, s_set, s_eql, s_neq, s_lss, s_leq, s_gtr, s_geq, s_not, s_and, s_beq, s_add, s_sub, s_mul, s_wrap, s_diff, s_max, s_min, s_quo, s_rem, s_quo32, s_rem32, s_quo64, s_rem64, s_zerosI, s_cat, wi, wrap_u32', wrap_u64', wrap_u8', decide_eq_true_eq, decide_eq_false_iff_not, beq_iff_eq, beq_eq_false_iff_ne, bne_iff_ne, bne_eq_false_iff_eq, Bool.not_eq_true', Bool.not_eq_false', ne_eq, nc0, nc1, nc4, nc8, Int.toNat_natCast, Int.cast_ofNat_Int, Int.ofNat_eq_natCast, and_true, true_and, s_subL, s_shr32, s_shl32, s_or32]; omega
    · subst_vars; rw [whW, v3]; rfl
theorem h_rsub : Holds Try.prog 14 (gSS_SIp sbW sbE sz2) := holds_SS_SIp fun a b ha hb hp => w_rsub _ rfl _ rfl _ rfl _ rfl _ rfl _ rfl _ rfl _ rfl _ rfl ⟨h_rcmp, h_digits, h_less, h_whole, trivial⟩ a b ha hb (of_decide_eq_true hp).1 (of_decide_eq_true hp).2
end Go.Proofs.SX

namespace Go.Proofs.SX
open Go Go.Proofs
set_option maxRecDepth 100000
set_option linter.unusedVariables false
set_option linter.unusedSimpArgs false
theorem bitLen_zero : bitLen 0 = 0 := rfl
theorem bitLen_half {x : Nat} (h : 0 < x) : bitLen x = bitLen (x / 2) + 1 := by
  by_cases h1 : x / 2 = 0
  · have : x = 1 := by omega
    subst this; rfl
  · have := bitLen_shift x 1 (by simpa using h1)
    rw [this]; simp; omega
theorem bit_top16 {x : LI} (dx : Dg (65536 : Nat) x) (tx : Top x) (h0 : x.length ≠ 0) : bitLen (V (65536 : Nat) x) = 16 * (x.length - 1) + bitLen (x.getD (x.length - 1) 0).toNat := by
  have ht : x.getD (x.length - 1) 0 ≠ 0 := tx.resolve_left h0
  have h1 := pre_lt dx (x.length - 1)
  have h2 := dx (x.length - 1)
  have hp : (2 : Nat) ^ (16 * (x.length - 1)) = (65536 : Nat) ^ (x.length - 1) := by rw [Nat.pow_mul]
  have e : V (65536 : Nat) x / 2 ^ (16 * (x.length - 1)) = (x.getD (x.length - 1) 0).toNat := by
    rw [V_top (i := x.length - 1) (by omega) (fun j hj => getD_big (by omega)), hp, Nat.add_mul_div_right _ _ (by omega), Nat.div_eq_of_lt h1, Nat.zero_add]
  rw [bitLen_shift (V (65536 : Nat) x) (16 * (x.length - 1)) (by rw [e]; omega), e]
theorem w_rbits (A : Ar) (hA : A = stdAr) (dg : LI → LI) (hdg : dg = dgD) (s1 : LI → Bool) (hs1 : s1 = sz1) (hG : allHold Try.prog [(47, gS_Dp dg s1)]) (a : LI) (ha : Nm .u32 a) (la : a.length ≤ 1048576) :
    FCall Try.prog 21 [.sli .u32 a] (.int .i64 (biV a)) := by
  have k := ok_of hA hG
  have px := dgD_ok (nm32 ha) la
  have tx : Top (dgD a) := Top.digs (by decide) _
  rw [← hdg] at px tx
  have dx := (whP_iff.1 px.1).1
  have lx := px.2.2
  have vx := px.2.1
  refine FCall.of_body k (fn := Try.f21) rfl rfl rfl rfl (fun _ => ?_)
  (refine AWP.seq (AWP.go k 100 [] ?_); (conv => { arg 1; cbv }); refine ⟨?_, ?_⟩; rotate_left; (try dsimp only [sthen, sblock]); rotate_right; (try exact obs_nil))
  (refine AWP.seq (AWP.go k 100 [] ?_); (conv => { arg 1; cbv }); refine ⟨?_, ?_⟩; rotate_left; (try dsimp only [sthen, sblock]); rotate_right; (try exact obs_nil))
  · subst_vars; simp (disch := omega) only [sz1, obs_nil_iff, obs_cons_iff, s_ofNat, s_plus, s_len, s_rd, s_set, s_eql, s_neq, s_lss, s_leq, s_gtr, s_geq, s_not, s_and, s_beq, s_add, s_sub, s_mul, s_wrap, s_diff, s_max, s_min, s_quo, s_rem, s_quo32, s_rem32, s_quo64, s_rem64, s_zerosI, s_cat, wi, wrap_u32', wrap_u64', wrap_u8', decide_eq_true_eq, decide_eq_false_iff_not, beq_iff_eq, beq_eq_false_iff_ne, bne_iff_ne, bne_eq_false_iff_eq, Bool.not_eq_true', Bool.not_eq_false', ne_eq, nc0, nc1, nc4, nc8, Int.toNat_natCast, Int.cast_ofNat_Int, Int.ofNat_eq_natCast, and_true, true_and, s_subL, s_shr32, s_shl32, s_or32]; omega
  rw [biV, ← vx]
  clear hdg px vx
  generalize dg a = x at *
  by_cases c0 : x.length = 0
  · refine AWP.seq ?_
    (refine AWP.seq (AWP.go k 100 [] ?_); (conv => { arg 1; cbv }); refine ⟨?_, ?_⟩; rotate_left; (try dsimp only [sthen, sblock]); rotate_right; (try exact obs_nil))
    (refine AWP.go k 100 [true] ?_; (conv => { arg 1; cbv }); refine ⟨?_, ?_⟩; rotate_left; (try dsimp only [sthen, sblock]); rotate_right; (try exact obs_nil))
    · (subst_vars; simp (disch := omega) only [obs_nil_iff, obs_cons_iff, s_ofNat, s_plus, s_len, s_rd, s_set, s_eql, s_neq, s_lss, s_leq, s_gtr, s_geq, s_not, s_and, s_beq, s_add, s_sub, s_mul, s_wrap, s_diff, s_max, s_min, s_quo, s_rem, s_quo32, s_rem32, s_quo64, s_rem64, s_zerosI, s_cat, wi, wrap_u32', wrap_u64', wrap_u8', decide_eq_true_eq, decide_eq_false_iff_not, beq_iff_eq, beq_eq_false_iff_ne, bne_iff_ne, bne_eq_false_iff_eq, Bool.not_eq_true', Bool.not_eq_false', ne_eq, nc0, nc1, nc4, nc8, Int.toNat_natCast, Int.cast_ofNat_Int, Int.ofNat_eq_natCast, and_true, true_and, s_subL, s_shr32, s_shl32, s_or32]; (repeat' apply And.intro) <;> first | trivial | omega)
    (refine ⟨fun id => by simp, ?_⟩; conv => { lhs; cbv })
    have : V (65536 : Nat) x = 0 := by rw [List.length_eq_zero_iff.1 c0]; rfl
    rw [this]
    subst_vars; rfl
  have bt := bit_top16 dx tx c0
  have dt := dx (x.length - 1)
  have hT : bitLen (V (65536 : Nat) x) ≤ 33554432 := by
    unfold bitLen
    split
    · omega
    · rename_i h0
      have := V_lt dx
      rw [show (65536 : Nat) ^ x.length = 2 ^ (16 * x.length) by rw [Nat.pow_mul]] at this
      have := (Nat.log2_lt h0).2 this
      omega
  (refine AWP.seq (AWP.go k 100 [false] ?_); (conv => { arg 1; cbv }); refine ⟨?_, ?_⟩; rotate_left; (try dsimp only [sthen, sblock]); rotate_right; (try exact obs_nil))
  · (subst_vars; simp (disch := omega) only [obs_nil_iff, obs_cons_iff, s_ofNat, s_plus, s_len, s_rd, s_set, s_eql, s_neq, s_lss, s_leq, s_gtr, s_geq, s_not, s_and, s_beq, s_add, s_sub, s_mul, s_wrap, s_diff, s_max, s_min, s_quo, s_rem, s_quo32, s_rem32, s_quo64, s_rem64, s_zerosI, s_cat, wi, wrap_u32', wrap_u64', wrap_u8', decide_eq_true_eq, decide_eq_false_iff_not, beq_iff_eq, beq_eq_false_iff_ne, bne_iff_ne, bne_eq_false_iff_eq, Bool.not_eq_true', Bool.not_eq_false', ne_eq, nc0, nc1, nc4, nc8, Int.toNat_natCast, Int.cast_ofNat_Int, Int.ofNat_eq_natCast, and_true, true_and, s_subL, s_shr32, s_shl32, s_or32]; (repeat' apply And.intro) <;> first | trivial | omega)
  (refine AWP.seq (AWP.go k 100 [] ?_); (conv => { arg 1; cbv }); refine ⟨?_, ?_⟩; rotate_left; (try dsimp only [sthen, sblock]); rotate_right; (try exact obs_nil))
  refine AWP.seq ?_
  (refine AWP.seq (AWP.go k 100 [] ?_); (conv => { arg 1; cbv }); refine ⟨?_, ?_⟩; rotate_left; (try dsimp only [sthen, sblock]); rotate_right; (try exact obs_nil))
  · (subst_vars; simp (disch := omega) only [obs_nil_iff, obs_cons_iff, s_ofNat, s_plus, s_len, s_rd, s_set, s_eql, s_neq, s_lss, s_leq, s_gtr, s_geq, s_not, s_and, s_beq, s_add, s_sub, s_mul, s_wrap, s_diff, s_max, s_min, s_quo, s_rem, s_quo32, s_rem32, s_quo64, s_rem64, s_zerosI, s_cat, wi, wrap_u32', wrap_u64', wrap_u8', decide_eq_true_eq, decide_eq_false_iff_not, beq_iff_eq, beq_eq_false_iff_ne, bne_iff_ne, bne_eq_false_iff_eq, Bool.not_eq_true', Bool.not_eq_false', ne_eq, nc0, nc1, nc4, nc8, Int.toNat_natCast, Int.cast_ofNat_Int, Int.ofNat_eq_natCast, and_true, true_and, s_subL, s_shr32, s_shl32, s_or32]; (repeat' apply And.intro) <;> first | trivial | omega)
  refine AWP.block ?_
  refine AWP.loopP (fun z : Nat × Nat => ⟨mkF [(4, .int .i64 z.1), (5, .int .u64 z.2)] 28 0, []⟩) (fun z => z.1 + bitLen z.2 = bitLen (V (65536 : Nat) x) ∧ z.2 < 65536) (fun z => z.2) (16 * (x.length - 1), (x.getD (x.length - 1) 0).toNat) ?_ ?_ ?_
  · have e1 : ((x.length : Int) - 1).toNat = x.length - 1 := by omega
    subst_vars
    simp (disch := omega) only [e1, obs_nil_iff, obs_cons_iff, s_ofNat, s_plus, s_len, s_rd, s_set, s_eql, s_neq, s_lss, s_leq, s_gtr, s_geq, s_not, s_and, s_beq, s_add, s_sub, s_mul, s_wrap, s_diff, s_max, s_min, s_quo, s_rem, s_quo32, s_rem32, s_quo64, s_rem64, s_zerosI, s_cat, wi, wrap_u32', wrap_u64', wrap_u8', decide_eq_true_eq, decide_eq_false_iff_not, beq_iff_eq, beq_eq_false_iff_ne, bne_iff_ne, bne_eq_false_iff_eq, Bool.not_eq_true', Bool.not_eq_false', ne_eq, nc0, nc1, nc4, nc8, Int.toNat_natCast, Int.cast_ofNat_Int, Int.ofNat_eq_natCast, and_true, true_and, s_subL, s_shr32, s_shl32, s_or32]
    (refine ⟨?_, ?_, rfl⟩ <;> repeat' (first | exact .nil | exact .any _ | exact .gone _ | exact .same _ | exact .lit _ _ | exact .nil _ | refine .cons ?_ ?_ | exact AvLe.int_eq (by first | rfl | (simp only [Int.ofNat_eq_natCast]; omega) | omega) | exact AvLe.lit_eq (by first | rfl | (simp only [Int.ofNat_eq_natCast]; omega) | omega) | exact AvLe.osl_eq (by first | rfl | (simp only [Int.ofNat_eq_natCast]; omega) | omega) (by first | rfl | (simp only [Int.ofNat_eq_natCast]; omega) | omega | (simp; done) | (simp; omega)) | refine BlLe.row_eq ?_))
  · dsimp only
    exact ⟨bt.symm, by omega⟩
  rintro ⟨n, y⟩ ⟨h1, h2⟩
  dsimp only at h1 h2
  by_cases c : 0 < y
  · (refine AWP.seq (AWP.go k 100 [true] ?_); (conv => { arg 1; cbv }); refine ⟨?_, ?_⟩; rotate_left; (try dsimp only [sthen, sblock]); rotate_right; (try exact obs_nil))
    · (subst_vars; simp (disch := omega) only [obs_nil_iff, obs_cons_iff, s_ofNat, s_plus, s_len, s_rd, s_set, s_eql, s_neq, s_lss, s_leq, s_gtr, s_geq, s_not, s_and, s_beq, s_add, s_sub, s_mul, s_wrap, s_diff, s_max, s_min, s_quo, s_rem, s_quo32, s_rem32, s_quo64, s_rem64, s_zerosI, s_cat, wi, wrap_u32', wrap_u64', wrap_u8', decide_eq_true_eq, decide_eq_false_iff_not, beq_iff_eq, beq_eq_false_iff_ne, bne_iff_ne, bne_eq_false_iff_eq, Bool.not_eq_true', Bool.not_eq_false', ne_eq, nc0, nc1, nc4, nc8, Int.toNat_natCast, Int.cast_ofNat_Int, Int.ofNat_eq_natCast, and_true, true_and, s_subL, s_shr32, s_shl32, s_or32]; (repeat' apply And.intro) <;> first | trivial | omega)
    (refine AWP.go k 100 [] ?_; (conv => { arg 1; cbv }); refine ⟨?_, ?_⟩; rotate_left; (try dsimp only [sthen, sblock]); rotate_right; (try exact obs_nil))
    · (subst_vars; simp (disch := omega) only [obs_nil_iff, obs_cons_iff, s_ofNat, s_plus, s_len, s_rd, s_set, s_eql, s_neq, s_lss, s_leq, s_gtr, s_geq, s_not, s_and, s_beq, s_add, s_sub, s_mul, s_wrap, s_diff, s_max, s_min, s_quo, s_rem, s_quo32, s_rem32, s_quo64, s_rem64, s_zerosI, s_cat, wi, wrap_u32', wrap_u64', wrap_u8', decide_eq_true_eq, decide_eq_false_iff_not, beq_iff_eq, beq_eq_false_iff_ne, bne_iff_ne, bne_eq_false_iff_eq, Bool.not_eq_true', Bool.not_eq_false', ne_eq, nc0, nc1, nc4, nc8, Int.toNat_natCast, Int.cast_ofNat_Int, Int.ofNat_eq_natCast, and_true, true_and, s_subL, s_shr32, s_shl32, s_or32]; (repeat' apply And.intro) <;> first | trivial | omega)
    apply handed.mk (n + 1, y / 2)
    · subst_vars; simp (disch := omega) only [obs_nil_iff, obs_cons_iff, s_ofNat, s_plus, s_len, s_rd, s_set, s_eql, s_neq, s_lss, s_leq, s_gtr, s_geq, s_not, s_and, s_beq, s_add, s_sub, s_mul, s_wrap, s_diff, s_max, s_min, s_quo, s_rem, s_quo32, s_rem32, s_quo64, s_rem64, s_zerosI, s_cat, wi, wrap_u32', wrap_u64', wrap_u8', decide_eq_true_eq, decide_eq_false_iff_not, beq_iff_eq, beq_eq_false_iff_ne, bne_iff_ne, bne_eq_false_iff_eq, Bool.not_eq_true', Bool.not_eq_false', ne_eq, nc0, nc1, nc4, nc8, Int.toNat_natCast, Int.cast_ofNat_Int, Int.ofNat_eq_natCast, and_true, true_and, s_subL, s_shr32, s_shl32, s_or32]; (refine ⟨?_, ?_, rfl⟩ <;> repeat' (first | exact .nil | exact .any _ | exact .gone _ | exact .same _ | exact .lit _ _ | exact .nil _ | refine .cons ?_ ?_ | exact AvLe.int_eq (by first | rfl | (simp only [Int.ofNat_eq_natCast]; omega) | omega) | exact AvLe.lit_eq (by first | rfl | (simp only [Int.ofNat_eq_natCast]; omega) | omega) | exact AvLe.osl_eq (by first | rfl | (simp only [Int.ofNat_eq_natCast]; omega) | omega) (by first | rfl | (simp only [Int.ofNat_eq_natCast]; omega) | omega | (simp; done) | (simp; omega)) | refine BlLe.row_eq ?_))
    · dsimp only
      have hh := bitLen_half c
      exact ⟨by omega, by omega⟩
    · dsimp only; omega
  · (refine AWP.seq (AWP.go k 100 [false] ?_); (conv => { arg 1; cbv }); refine ⟨?_, ?_⟩; rotate_left; (try dsimp only [sthen, sblock]); rotate_right; (try exact obs_nil))
    · (subst_vars; simp (disch := omega) only [obs_nil_iff, obs_cons_iff, s_ofNat, s_plus, s_len, s_rd, s_set, s_eql, s_neq, s_lss, s_leq, s_gtr, s_geq, s_not, s_and, s_beq, s_add, s_sub, s_mul, s_wrap, s_diff, s_max, s_min, s_quo, s_rem, s_quo32, s_rem32, s_quo64, s_rem64, s_zerosI, s_cat, wi, wrap_u32', wrap_u64', wrap_u8', decide_eq_true_eq, decide_eq_false_iff_not, beq_iff_eq, beq_eq_false_iff_ne, bne_iff_ne, bne_eq_false_iff_eq, Bool.not_eq_true', Bool.not_eq_false', ne_eq, nc0, nc1, nc4, nc8, Int.toNat_natCast, Int.cast_ofNat_Int, Int.ofNat_eq_natCast, and_true, true_and, s_subL, s_shr32, s_shl32, s_or32]; (repeat' apply And.intro) <;> first | trivial | omega)
    (dsimp only [handed, handedR, sblock, sthen]; rw [if_pos rfl])
    (refine AWP.seq (AWP.go k 100 [] ?_); (conv => { arg 1; cbv }); refine ⟨?_, ?_⟩; rotate_left; (try dsimp only [sthen, sblock]); rotate_right; (try exact obs_nil))
    (refine AWP.go k 100 [] ?_; (conv => { arg 1; cbv }); refine ⟨?_, ?_⟩; rotate_left; (try dsimp only [sthen, sblock]); rotate_right; (try exact obs_nil))
    (refine ⟨fun id => by simp, ?_⟩; conv => { lhs; cbv })
    have : y = 0 := by omega
    subst this
    rw [bitLen_zero, Nat.add_zero] at h1
    rw [← h1]; rfl
theorem h_rbits : Holds Try.prog 21 (gS_Ip biV sz1) := holds_S_Ip fun a ha hp => w_rbits _ rfl _ rfl _ rfl ⟨h_digits, trivial⟩ a ha (of_decide_eq_true hp)
theorem w_rbit (A : Ar) (hA : A = stdAr) (a : LI) (i : Int) (ha : Nm .u32 a) (hi : Rg .i64 i) : FCall Try.prog 23 [.sli .u32 a, .int .i64 i] (.int .i64 (btV a i)) := by
  have hG : allHold Try.prog [] := trivial
  have k := ok_of hA hG
  have da := nm32 ha
  have hi := rgi.1 hi
  by_cases c : i < 0
  · (refine FCall.exec k (fn := Try.f23) 100 (List.replicate 7 true) rfl rfl rfl (fun _ => ?_); (conv => { arg 1; cbv }); refine ⟨?_, ?_⟩; (try exact obs_nil))
    · (subst_vars; simp (disch := omega) only [obs_nil_iff, obs_cons_iff, s_ofNat, s_plus, s_len, s_rd, s_set, s_eql, s_neq, s_lss, s_leq, s_gtr, s_geq, s_not, s_and, s_beq, s_add, s_sub, s_mul, s_wrap, s_diff, s_max, s_min, s_quo, s_rem, s_quo32, s_rem32, s_quo64, s_rem64, s_zerosI, s_cat, wi, wrap_u32', wrap_u64', wrap_u8', decide_eq_true_eq, decide_eq_false_iff_not, beq_iff_eq, beq_eq_false_iff_ne, bne_iff_ne, bne_eq_false_iff_eq, Bool.not_eq_true', Bool.not_eq_false', ne_eq, nc0, nc1, nc4, nc8, Int.toNat_natCast, Int.cast_ofNat_Int, Int.ofNat_eq_natCast, and_true, true_and, s_subL, s_shr32, s_shl32, s_or32]; (repeat' apply And.intro) <;> first | trivial | omega)
    · rw [btV, if_pos c]; subst_vars; rfl
  rw [btV, if_neg c]
  by_cases c2 : i / 32 < a.length
  · have dj := da (i / 32).toNat
    have e := dig32 da (j := (i / 32).toNat) (p := i.toNat) (r := (i % 32).toNat) (s := 1) (by omega) (by omega)
    have e2 := s_shl32u (x := 1) (y := i % 32) (i % 32).toNat (by omega) (by omega)
    obtain ⟨P, hP⟩ : ∃ P : Nat, P = 2 ^ (i % 32).toNat := ⟨_, rfl⟩
    have hP1 : 0 < P := by rw [hP]; exact Nat.pow_pos (by decide)
    have hP2 : P < 4294967296 := by
      rw [hP]
      exact Nat.lt_of_lt_of_le (Nat.pow_lt_pow_right (by decide) (by omega : (i % 32).toNat < 32)) (by decide)
    have e3 : (1 : Int) * 2 ^ (i % 32).toNat % 4294967296 = (P : Int) := by
      have : ((2 : Int) ^ (i % 32).toNat) = (P : Int) := by rw [hP]; simp
      rw [this]; omega
    rw [e3] at e2
    have hsh : 0 ≤ a.getD (i / 32).toNat 0 / (P : Int) ∧ a.getD (i / 32).toNat 0 / (P : Int) < 4294967296 :=
      ⟨Int.ediv_nonneg dj.1 (by omega), by have := Int.ediv_le_self (P : Int) dj.1; omega⟩
    (refine FCall.exec k (fn := Try.f23) 100 (List.replicate 6 false ++ [false]) rfl rfl rfl (fun _ => ?_); (conv => { arg 1; cbv }); refine ⟨?_, ?_⟩; (try exact obs_nil))
    · subst_vars; simp (disch := omega) only [Int.emod_eq_of_lt, e2, obs_nil_iff, obs_cons_iff, s_ofNat, s_plus, s_len, s_rd, s_set, s_eql, s_neq, s_lss, s_leq, s_gtr, s_geq, s_not, s_and, s_beq, s_add, s_sub, s_mul, s_wrap, s_diff, s_max, s_min, s_quo, s_rem, s_quo32, s_rem32, s_quo64, s_rem64, s_zerosI, s_cat, wi, wrap_u32', wrap_u64', wrap_u8', decide_eq_true_eq, decide_eq_false_iff_not, beq_iff_eq, beq_eq_false_iff_ne, bne_iff_ne, bne_eq_false_iff_eq, Bool.not_eq_true', Bool.not_eq_false', ne_eq, nc0, nc1, nc4, nc8, Int.toNat_natCast, Int.cast_ofNat_Int, Int.ofNat_eq_natCast, and_true, true_and, s_subL, s_shr32, s_shl32, s_or32]; omega
    · rw [← e]
      subst_vars
      simp (disch := omega) only [Int.emod_eq_of_lt, e2, obs_nil_iff, obs_cons_iff, s_ofNat, s_plus, s_len, s_rd, s_set, s_eql, s_neq, s_lss, s_leq, s_gtr, s_geq, s_not, s_and, s_beq, s_add, s_sub, s_mul, s_wrap, s_diff, s_max, s_min, s_quo, s_rem, s_quo32, s_rem32, s_quo64, s_rem64, s_zerosI, s_cat, wi, wrap_u32', wrap_u64', wrap_u8', decide_eq_true_eq, decide_eq_false_iff_not, beq_iff_eq, beq_eq_false_iff_ne, bne_iff_ne, bne_eq_false_iff_eq, Bool.not_eq_true', Bool.not_eq_false', ne_eq, nc0, nc1, nc4, nc8, Int.toNat_natCast, Int.cast_ofNat_Int, Int.ofNat_eq_natCast, and_true, true_and, s_subL, s_shr32, s_shl32, s_or32]
      have : a.getD (i / 32).toNat 0 = ((a.getD (i / 32).toNat 0).toNat : Int) := by omega
      rw [this]
      simp
  · have e := dig_none da (p := i.toNat) (s := 2) (by omega)
    rw [e]
    (refine FCall.exec k (fn := Try.f23) 100 (List.replicate 6 false ++ [true]) rfl rfl rfl (fun _ => ?_); (conv => { arg 1; cbv }); refine ⟨?_, ?_⟩; (try exact obs_nil))
    · (subst_vars; simp (disch := omega) only [obs_nil_iff, obs_cons_iff, s_ofNat, s_plus, s_len, s_rd, s_set, s_eql, s_neq, s_lss, s_leq, s_gtr, s_geq, s_not, s_and, s_beq, s_add, s_sub, s_mul, s_wrap, s_diff, s_max, s_min, s_quo, s_rem, s_quo32, s_rem32, s_quo64, s_rem64, s_zerosI, s_cat, wi, wrap_u32', wrap_u64', wrap_u8', decide_eq_true_eq, decide_eq_false_iff_not, beq_iff_eq, beq_eq_false_iff_ne, bne_iff_ne, bne_eq_false_iff_eq, Bool.not_eq_true', Bool.not_eq_false', ne_eq, nc0, nc1, nc4, nc8, Int.toNat_natCast, Int.cast_ofNat_Int, Int.ofNat_eq_natCast, and_true, true_and, s_subL, s_shr32, s_shl32, s_or32]; (repeat' apply And.intro) <;> first | trivial | omega)
    · subst_vars; rfl
theorem h_rbit : Holds Try.prog 23 (gSI_I stdAr btV) := holds_SI_I fun a i ha hi => w_rbit _ rfl a i ha hi
def saV (a b : LI) : Bool := decide (a = b)
theorem w_same (A : Ar) (hA : A = stdAr) (a b : LI) (ha : Nm .u32 a) (hb : Nm .u32 b) : FCall Try.prog 17 [.sli .u32 a, .sli .u32 b] (.bool (saV a b)) := by
  have hG : allHold Try.prog [] := trivial
  have k := ok_of hA hG
  have la := ha.2
  refine FCall.of_body k (fn := Try.f17) rfl rfl rfl rfl (fun _ => ?_)
  (refine AWP.seq (AWP.go k 100 [] ?_); (conv => { arg 1; cbv }); refine ⟨?_, ?_⟩; rotate_left; (try dsimp only [sthen, sblock]); rotate_right; (try exact obs_nil))
  by_cases c : ¬ a.length = b.length
  · (refine AWP.go k 100 [true] ?_; (conv => { arg 1; cbv }); refine ⟨?_, ?_⟩; rotate_left; (try dsimp only [sthen, sblock]); rotate_right; (try exact obs_nil))
    · (subst_vars; simp (disch := omega) only [obs_nil_iff, obs_cons_iff, s_ofNat, s_plus, s_len, s_rd, s_set, s_eql, s_neq, s_lss, s_leq, s_gtr, s_geq, s_not, s_and, s_beq, s_add, s_sub, s_mul, s_wrap, s_diff, s_max, s_min, s_quo, s_rem, s_quo32, s_rem32, s_quo64, s_rem64, s_zerosI, s_cat, wi, wrap_u32', wrap_u64', wrap_u8', decide_eq_true_eq, decide_eq_false_iff_not, beq_iff_eq, beq_eq_false_iff_ne, bne_iff_ne, bne_eq_false_iff_eq, Bool.not_eq_true', Bool.not_eq_false', ne_eq, nc0, nc1, nc4, nc8, Int.toNat_natCast, Int.cast_ofNat_Int, Int.ofNat_eq_natCast, and_true, true_and, s_subL, s_shr32, s_shl32, s_or32]; (repeat' apply And.intro) <;> first | trivial | omega)
    (refine ⟨fun id => by simp, ?_⟩; conv => { lhs; cbv })
    rw [show saV a b = false from decide_eq_false fun h => c (by rw [h])]
  have c : a.length = b.length := Classical.not_not.1 c
  (refine AWP.seq (AWP.go k 100 [false] ?_); (conv => { arg 1; cbv }); refine ⟨?_, ?_⟩; rotate_left; (try dsimp only [sthen, sblock]); rotate_right; (try exact obs_nil))
  · (subst_vars; simp (disch := omega) only [obs_nil_iff, obs_cons_iff, s_ofNat, s_plus, s_len, s_rd, s_set, s_eql, s_neq, s_lss, s_leq, s_gtr, s_geq, s_not, s_and, s_beq, s_add, s_sub, s_mul, s_wrap, s_diff, s_max, s_min, s_quo, s_rem, s_quo32, s_rem32, s_quo64, s_rem64, s_zerosI, s_cat, wi, wrap_u32', wrap_u64', wrap_u8', decide_eq_true_eq, decide_eq_false_iff_not, beq_iff_eq, beq_eq_false_iff_ne, bne_iff_ne, bne_eq_false_iff_eq, Bool.not_eq_true', Bool.not_eq_false', ne_eq, nc0, nc1, nc4, nc8, Int.toNat_natCast, Int.cast_ofNat_Int, Int.ofNat_eq_natCast, and_true, true_and, s_subL, s_shr32, s_shl32, s_or32]; (repeat' apply And.intro) <;> first | trivial | omega)
  refine AWP.seq ?_
  (refine AWP.seq (AWP.go k 100 [] ?_); (conv => { arg 1; cbv }); refine ⟨?_, ?_⟩; rotate_left; (try dsimp only [sthen, sblock]); rotate_right; (try exact obs_nil))
  refine AWP.block ?_
  refine AWP.loopP (fun i : Nat => ⟨mkF [(0, .sli .u32 a), (1, .sli .u32 b), (5, .int .i64 i)] 26 0, []⟩) (fun i => i ≤ a.length ∧ ∀ j, j < i → a.getD j 0 = b.getD j 0) (fun i => a.length - i) 0 ?_ ?_ ?_
  · (refine ⟨?_, ?_, rfl⟩ <;> repeat' (first | exact .nil | exact .any _ | exact .gone _ | exact .same _ | exact .lit _ _ | exact .nil _ | refine .cons ?_ ?_ | exact AvLe.int_eq (by first | rfl | (simp only [Int.ofNat_eq_natCast]; omega) | omega) | exact AvLe.lit_eq (by first | rfl | (simp only [Int.ofNat_eq_natCast]; omega) | omega) | exact AvLe.osl_eq (by first | rfl | (simp only [Int.ofNat_eq_natCast]; omega) | omega) (by first | rfl | (simp only [Int.ofNat_eq_natCast]; omega) | omega | (simp; done) | (simp; omega)) | refine BlLe.row_eq ?_))
  · exact ⟨Nat.zero_le _, fun j hj => absurd hj (by omega)⟩
  rintro i ⟨h1, h2⟩
  by_cases d : i < a.length
  · by_cases e : a.getD i 0 = b.getD i 0
    · (refine AWP.seq (AWP.go k 100 [true] ?_); (conv => { arg 1; cbv }); refine ⟨?_, ?_⟩; rotate_left; (try dsimp only [sthen, sblock]); rotate_right; (try exact obs_nil))
      · (subst_vars; simp (disch := omega) only [obs_nil_iff, obs_cons_iff, s_ofNat, s_plus, s_len, s_rd, s_set, s_eql, s_neq, s_lss, s_leq, s_gtr, s_geq, s_not, s_and, s_beq, s_add, s_sub, s_mul, s_wrap, s_diff, s_max, s_min, s_quo, s_rem, s_quo32, s_rem32, s_quo64, s_rem64, s_zerosI, s_cat, wi, wrap_u32', wrap_u64', wrap_u8', decide_eq_true_eq, decide_eq_false_iff_not, beq_iff_eq, beq_eq_false_iff_ne, bne_iff_ne, bne_eq_false_iff_eq, Bool.not_eq_true', Bool.not_eq_false', ne_eq, nc0, nc1, nc4, nc8, Int.toNat_natCast, Int.cast_ofNat_Int, Int.ofNat_eq_natCast, and_true, true_and, s_subL, s_shr32, s_shl32, s_or32]; (repeat' apply And.intro) <;> first | trivial | omega)
      (refine AWP.seq (AWP.go k 100 [false] ?_); (conv => { arg 1; cbv }); refine ⟨?_, ?_⟩; rotate_left; (try dsimp only [sthen, sblock]); rotate_right; (try exact obs_nil))
      · (subst_vars; simp (disch := omega) only [obs_nil_iff, obs_cons_iff, s_ofNat, s_plus, s_len, s_rd, s_set, s_eql, s_neq, s_lss, s_leq, s_gtr, s_geq, s_not, s_and, s_beq, s_add, s_sub, s_mul, s_wrap, s_diff, s_max, s_min, s_quo, s_rem, s_quo32, s_rem32, s_quo64, s_rem64, s_zerosI, s_cat, wi, wrap_u32', wrap_u64', wrap_u8', decide_eq_true_eq, decide_eq_false_iff_not, beq_iff_eq, beq_eq_false_iff_ne, bne_iff_ne, bne_eq_false_iff_eq, Bool.not_eq_true', Bool.not_eq_false', ne_eq, nc0, nc1, nc4, nc8, Int.toNat_natCast, Int.cast_ofNat_Int, Int.ofNat_eq_natCast, and_true, true_and, s_subL, s_shr32, s_shl32, s_or32]; (repeat' apply And.intro) <;> first | trivial | omega)
      (refine AWP.go k 100 [] ?_; (conv => { arg 1; cbv }); refine ⟨?_, ?_⟩; rotate_left; (try dsimp only [sthen, sblock]); rotate_right; (try exact obs_nil))
      apply handed.mk (i + 1)
      · subst_vars; simp (disch := omega) only [obs_nil_iff, obs_cons_iff, s_ofNat, s_plus, s_len, s_rd, s_set, s_eql, s_neq, s_lss, s_leq, s_gtr, s_geq, s_not, s_and, s_beq, s_add, s_sub, s_mul, s_wrap, s_diff, s_max, s_min, s_quo, s_rem, s_quo32, s_rem32, s_quo64, s_rem64, s_zerosI, s_cat, wi, wrap_u32', wrap_u64', wrap_u8', decide_eq_true_eq, decide_eq_false_iff_not, beq_iff_eq, beq_eq_false_iff_ne, bne_iff_ne, bne_eq_false_iff_eq, Bool.not_eq_true', Bool.not_eq_false', ne_eq, nc0, nc1, nc4, nc8, Int.toNat_natCast, Int.cast_ofNat_Int, Int.ofNat_eq_natCast, and_true, true_and, s_subL, s_shr32, s_shl32, s_or32]; (refine ⟨?_, ?_, rfl⟩ <;> repeat' (first | exact .nil | exact .any _ | exact .gone _ | exact .same _ | exact .lit _ _ | exact .nil _ | refine .cons ?_ ?_ | exact AvLe.int_eq (by first | rfl | (simp only [Int.ofNat_eq_natCast]; omega) | omega) | exact AvLe.lit_eq (by first | rfl | (simp only [Int.ofNat_eq_natCast]; omega) | omega) | exact AvLe.osl_eq (by first | rfl | (simp only [Int.ofNat_eq_natCast]; omega) | omega) (by first | rfl | (simp only [Int.ofNat_eq_natCast]; omega) | omega | (simp; done) | (simp; omega)) | refine BlLe.row_eq ?_))
      · refine ⟨by omega, fun j hj => ?_⟩
        by_cases hji : j = i
        · rw [hji]; exact e
        · exact h2 j (by omega)
      · omega
    · (refine AWP.seq (AWP.go k 100 [true] ?_); (conv => { arg 1; cbv }); refine ⟨?_, ?_⟩; rotate_left; (try dsimp only [sthen, sblock]); rotate_right; (try exact obs_nil))
      · (subst_vars; simp (disch := omega) only [obs_nil_iff, obs_cons_iff, s_ofNat, s_plus, s_len, s_rd, s_set, s_eql, s_neq, s_lss, s_leq, s_gtr, s_geq, s_not, s_and, s_beq, s_add, s_sub, s_mul, s_wrap, s_diff, s_max, s_min, s_quo, s_rem, s_quo32, s_rem32, s_quo64, s_rem64, s_zerosI, s_cat, wi, wrap_u32', wrap_u64', wrap_u8', decide_eq_true_eq, decide_eq_false_iff_not, beq_iff_eq, beq_eq_false_iff_ne, bne_iff_ne, bne_eq_false_iff_eq, Bool.not_eq_true', Bool.not_eq_false', ne_eq, nc0, nc1, nc4, nc8, Int.toNat_natCast, Int.cast_ofNat_Int, Int.ofNat_eq_natCast, and_true, true_and, s_subL, s_shr32, s_shl32, s_or32]; (repeat' apply And.intro) <;> first | trivial | omega)
      (refine AWP.seq (AWP.go k 100 [true] ?_); (conv => { arg 1; cbv }); refine ⟨?_, ?_⟩; rotate_left; (try dsimp only [sthen, sblock]); rotate_right; (try exact obs_nil))
      · (subst_vars; simp (disch := omega) only [obs_nil_iff, obs_cons_iff, s_ofNat, s_plus, s_len, s_rd, s_set, s_eql, s_neq, s_lss, s_leq, s_gtr, s_geq, s_not, s_and, s_beq, s_add, s_sub, s_mul, s_wrap, s_diff, s_max, s_min, s_quo, s_rem, s_quo32, s_rem32, s_quo64, s_rem64, s_zerosI, s_cat, wi, wrap_u32', wrap_u64', wrap_u8', decide_eq_true_eq, decide_eq_false_iff_not, beq_iff_eq, beq_eq_false_iff_ne, bne_iff_ne, bne_eq_false_iff_eq, Bool.not_eq_true', Bool.not_eq_false', ne_eq, nc0, nc1, nc4, nc8, Int.toNat_natCast, Int.cast_ofNat_Int, Int.ofNat_eq_natCast, and_true, true_and, s_subL, s_shr32, s_shl32, s_or32]; (repeat' apply And.intro) <;> first | trivial | omega)
      dsimp only [handed]
      (refine ⟨fun id => by simp, ?_⟩; conv => { lhs; cbv })
      rw [show saV a b = false from decide_eq_false fun h => e (by rw [h])]
  · (refine AWP.seq (AWP.go k 100 [false] ?_); (conv => { arg 1; cbv }); refine ⟨?_, ?_⟩; rotate_left; (try dsimp only [sthen, sblock]); rotate_right; (try exact obs_nil))
    · (subst_vars; simp (disch := omega) only [obs_nil_iff, obs_cons_iff, s_ofNat, s_plus, s_len, s_rd, s_set, s_eql, s_neq, s_lss, s_leq, s_gtr, s_geq, s_not, s_and, s_beq, s_add, s_sub, s_mul, s_wrap, s_diff, s_max, s_min, s_quo, s_rem, s_quo32, s_rem32, s_quo64, s_rem64, s_zerosI, s_cat, wi, wrap_u32', wrap_u64', wrap_u8', decide_eq_true_eq, decide_eq_false_iff_not, beq_iff_eq, beq_eq_false_iff_ne, bne_iff_ne, bne_eq_false_iff_eq, Bool.not_eq_true', Bool.not_eq_false', ne_eq, nc0, nc1, nc4, nc8, Int.toNat_natCast, Int.cast_ofNat_Int, Int.ofNat_eq_natCast, and_true, true_and, s_subL, s_shr32, s_shl32, s_or32]; (repeat' apply And.intro) <;> first | trivial | omega)
    (dsimp only [handed, handedR, sblock, sthen]; rw [if_pos rfl])
    (refine AWP.seq (AWP.go k 100 [] ?_); (conv => { arg 1; cbv }); refine ⟨?_, ?_⟩; rotate_left; (try dsimp only [sthen, sblock]); rotate_right; (try exact obs_nil))
    (refine AWP.go k 100 [] ?_; (conv => { arg 1; cbv }); refine ⟨?_, ?_⟩; rotate_left; (try dsimp only [sthen, sblock]); rotate_right; (try exact obs_nil))
    (refine ⟨fun id => by simp, ?_⟩; conv => { lhs; cbv })
    rw [show saV a b = true from decide_eq_true (list_ext c fun j => by
      by_cases hj : j < a.length
      · exact h2 j (by omega)
      · rw [getD_big (by omega), getD_big (by omega)])]
theorem h_same : Holds Try.prog 17 (gSS_T saV) := holds_SS_T fun a b ha hb => w_same _ rfl a b ha hb
end Go.Proofs.SX
