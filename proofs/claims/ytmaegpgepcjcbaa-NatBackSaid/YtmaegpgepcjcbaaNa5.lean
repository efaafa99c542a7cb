/- The walk: alive; the law of sums. Conditions: none. -/
import Derived.Test.YtmaegpgepcjcbaaNa4
import Derived.Test.YtmaegpgepcjcbaaSx3
set_option linter.all false
namespace Go.Proofs.SX
open Go Go.Proofs
set_option maxRecDepth 100000
set_option linter.unusedVariables false
set_option linter.unusedSimpArgs false
theorem s_sub3 (x y z : Int) : stdAr.sub [x, y, z] 0 (0 + 3) = [x, y, z] := rfl
theorem nc3 : ((3 : Nat) : Int) = 3 := rfl
theorem nc6 : ((6 : Nat) : Int) = 6 := rfl
theorem nc10 : ((10 : Nat) : Int) = 10 := rfl
theorem saV_refl {a : LI} : saV a a = true := decide_eq_true rfl
theorem al1 : diQ [0, 0, 1] [10] = frW 1844674407370955161 := by
  unfold diQ frW
  rw [if_neg (by decide)]
  congr 1
theorem al2 : diR [0, 0, 1] [10] = [6] := by
  unfold diR
  rw [if_neg (by decide), show V (4294967296 : Nat) [0, 0, 1] % V (4294967296 : Nat) [10] = 6 by decide, W, digs_pos (by decide) (by decide), show (6 : Nat) / (4294967296 : Nat) = 0 by decide, digs_zero]
  rfl
theorem al3 : diE [0, 0, 1] [10] = 0 := by unfold diE; rw [if_neg (by decide)]
theorem al4 : sbE [1] [2] = 1 := by unfold sbE; rw [if_pos (by decide)]
theorem al5 : dnP [0, 0, 1] [10] = true := by decide
theorem al6 : sz2 [1] [2] = true := by decide
theorem w_alive (A : Ar) (hA : A = stdAr) (dq dr : LI → LI → LI) (de : LI → LI → Int) (hdq : dq = diQ) (hdr : dr = diR) (hde : de = diE) (dp : LI → LI → Bool) (hdp : dp = dnP) (sw : LI → LI → LI) (hsw : sw = sbW) (se : LI → LI → Int) (hse : se = sbE) (s2 : LI → LI → Bool) (hs2 : s2 = sz2) (fr : Int → LI) (hfr : fr = frW) (sa : LI → LI → Bool) (hsa : sa = saV)
    (hG : allHold Try.prog [(30, gSS_SSIp dq dr de dp), (13, gSS_SIp sw se s2), (42, gV_S A fr), (17, gSS_T sa)]) : FCall Try.prog 12 [] (.bool true) := by
  (refine FCall.exec (ok_of hA hG) (fn := Try.f12) 100 (List.replicate 30 true) rfl rfl rfl (fun _ => ?_); (conv => { arg 1; cbv }); refine ⟨?_, ?_⟩; (try exact obs_nil))
  · subst_vars
    simp only [s_plus, s_ofNat, nc0, nc1, nc2, nc3, nc6, nc10, s_sub1, s_sub3, al1, al2, al3, al4, al5, al6, saV_refl]
    simp only [obs_nil_iff, obs_cons_iff, s_eql, and_true, true_and, Int.cast_ofNat_Int, saV_refl]
    decide
  · subst_vars
    simp only [s_plus, s_ofNat, nc0, nc1, nc2, nc3, nc6, nc10, s_sub1, s_sub3, al4]
    rfl
theorem h_alive : Holds Try.prog 12 (g0 (.bool true)) := holds_0 (w_alive _ rfl _ _ _ rfl rfl rfl _ rfl _ rfl _ rfl _ rfl _ rfl _ rfl ⟨h_divn, h_sub, h_from, h_same, trivial⟩)
theorem cmp_refl {x : Int} : stdAr.cmp .eql x x = true := by rw [s_eql]; simp
/-- Not longer than these. -/
def lP (a : LI) : Bool := decide (a.length ≤ 80)
theorem w_sums (A : Ar) (hA : A = stdAr) (s2 : LI → LI → Bool) (hs2 : s2 = sz2) (tp : LI → LI → Bool) (htp : tp = trueP2) (s1 : LI → Bool) (hs1 : s1 = sz1) (sw : LI → LI → LI) (se : LI → LI → Int) (cm : LI → LI → Int) (ad : LI → LI → LI) (sa : LI → LI → Bool) (hsa : sa = saV) (bi : LI → Int) (bt : LI → Int → Int)
    (hG : allHold Try.prog [(12, g0 (.bool true)), (13, gSS_SIp sw se s2), (14, gSS_SIp sw se s2), (15, gSS_Ip cm tp), (16, gSS_Ip cm s2), (18, gSS_Sp ad s2), (19, gSS_Sp ad s2),
      (17, gSS_T sa), (20, gS_Ip bi s1), (21, gS_Ip bi s1), (22, gSI_I A bt), (23, gSI_I A bt)]) (a b : LI) (i : Int) : FCall Try.prog 3 [.sli .u32 a, .sli .u32 b, .int .i64 i] (.bool true) := by
  by_cases c1 : 80 < a.length
  · (refine FCall.exec (ok_of hA hG) (fn := Try.f3) 100 [true, true, true, true, true] rfl rfl rfl (fun _ => ?_); (conv => { arg 1; cbv }); refine ⟨?_, ?_⟩; (try exact obs_nil))
    · (subst_vars; simp (disch := omega) only [obs_nil_iff, obs_cons_iff, s_ofNat, s_plus, s_len, s_rd, s_set, s_eql, s_neq, s_lss, s_leq, s_gtr, s_geq, s_not, s_and, s_beq, s_add, s_sub, s_mul, s_wrap, s_diff, s_max, s_min, s_quo, s_rem, s_quo32, s_rem32, s_quo64, s_rem64, s_zerosI, s_cat, wi, wrap_u32', wrap_u64', wrap_u8', decide_eq_true_eq, decide_eq_false_iff_not, beq_iff_eq, beq_eq_false_iff_ne, bne_iff_ne, bne_eq_false_iff_eq, Bool.not_eq_true', Bool.not_eq_false', ne_eq, nc0, nc1, nc4, nc8, Int.toNat_natCast, Int.cast_ofNat_Int, Int.ofNat_eq_natCast, and_true, true_and, s_subL, s_shr32, s_shl32, s_or32]; (repeat' apply And.intro) <;> first | trivial | omega)
    · rfl
  by_cases c2 : 80 < b.length
  · (refine FCall.exec (ok_of hA hG) (fn := Try.f3) 100 [false, false, false, false, true] rfl rfl rfl (fun _ => ?_); (conv => { arg 1; cbv }); refine ⟨?_, ?_⟩; (try exact obs_nil))
    · (subst_vars; simp (disch := omega) only [obs_nil_iff, obs_cons_iff, s_ofNat, s_plus, s_len, s_rd, s_set, s_eql, s_neq, s_lss, s_leq, s_gtr, s_geq, s_not, s_and, s_beq, s_add, s_sub, s_mul, s_wrap, s_diff, s_max, s_min, s_quo, s_rem, s_quo32, s_rem32, s_quo64, s_rem64, s_zerosI, s_cat, wi, wrap_u32', wrap_u64', wrap_u8', decide_eq_true_eq, decide_eq_false_iff_not, beq_iff_eq, beq_eq_false_iff_ne, bne_iff_ne, bne_eq_false_iff_eq, Bool.not_eq_true', Bool.not_eq_false', ne_eq, nc0, nc1, nc4, nc8, Int.toNat_natCast, Int.cast_ofNat_Int, Int.ofNat_eq_natCast, and_true, true_and, s_subL, s_shr32, s_shl32, s_or32]; (repeat' apply And.intro) <;> first | trivial | omega)
    · rfl
  · (refine FCall.exec (ok_of hA hG) (fn := Try.f3) 100 ([false, false, false, false, false] ++ List.replicate 60 true) rfl rfl rfl (fun _ => ?_); (conv => { arg 1; cbv }); refine ⟨?_, ?_⟩; (try exact obs_nil))
    · have e1 : sz2 a b = true := decide_eq_true (by omega)
      have e2 : sz1 a = true := decide_eq_true (by omega)
      subst_vars
      simp only [obs_nil_iff, obs_cons_iff, e1, e2, trueP2, saV_refl, cmp_refl, and_true, true_and, s_len, s_gtr, s_ofNat]
      simp
      omega
    · subst_vars
      exact congrArg AV.bool cmp_refl
theorem sumsCall (a b : LI) (i : Int) : FCall Try.prog 3 [.sli .u32 a, .sli .u32 b, .int .i64 i] (.bool true) :=
  w_sums stdAr rfl sz2 rfl trueP2 rfl sz1 rfl sbW sbE cmW adW saV rfl biV btV ⟨h_alive, h_sub, h_rsub, h_cmp, h_rcmp, h_add, h_radd, h_same, h_bits, h_rbits, h_bit, h_rbit, trivial⟩ a b i
end Go.Proofs.SX

namespace Go.Proofs.SX
open Go Go.Proofs
set_option maxRecDepth 100000
set_option linter.unusedVariables false
set_option linter.unusedSimpArgs false
def flV (d : LI) (n : Int) : LI := beV (V (65536 : Nat) d) n.toNat
def flP (d : LI) (n : Int) : Bool := whP d && decide (0 ≤ n ∧ n ≤ 4294967296)
theorem dig16 {a : LI} (da : Dg (65536 : Nat) a) {j : Nat} {p r s : Nat} (hp : p = 16 * j + r) (h : r + s ≤ 16) : (a.getD j 0).toNat / 2 ^ r % 2 ^ s = V (65536 : Nat) a / 2 ^ p % 2 ^ s := by
  have e : (a.getD j 0).toNat = V (65536 : Nat) a / 2 ^ (16 * j) % 2 ^ 16 := by
    rw [getD_eq (by decide) da, Int.toNat_natCast, show (65536 : Nat) ^ j = 2 ^ (16 * j) by rw [Nat.pow_mul]]
  rw [e, dig_in h, hp]
theorem w_rfill (A : Ar) (hA : A = stdAr) (dg : LI → Int → Int) (hdg : dg = rdW) (np : LI → Int → Bool) (hnp : np = nnP) (hG : allHold Try.prog [(51, gDI_Vp A dg np)])
    (a : LI) (n : Int) (da : Dg (65536 : Nat) a) (hn : 0 ≤ n ∧ n ≤ 4294967296) : FCall Try.prog 55 [.sli .u64 a, .int .i64 n] (.sli .u8 (flV a n)) := by
  have k := ok_of hA hG
  obtain ⟨N, rfl⟩ := Int.eq_ofNat_of_zero_le hn.1
  refine FCall.of_body k (fn := Try.f55) rfl rfl rfl rfl (fun _ => ?_)
  (refine AWP.seq (AWP.go k 100 [] ?_); (conv => { arg 1; cbv }); refine ⟨?_, ?_⟩; rotate_left; (try dsimp only [sthen, sblock]); rotate_right; (try exact obs_nil))
  (refine AWP.seq (AWP.go k 100 [] ?_); (conv => { arg 1; cbv }); refine ⟨?_, ?_⟩; rotate_left; (try dsimp only [sthen, sblock]); rotate_right; (try exact obs_nil))
  · (subst_vars; simp (disch := omega) only [obs_nil_iff, obs_cons_iff, s_ofNat, s_plus, s_len, s_rd, s_set, s_eql, s_neq, s_lss, s_leq, s_gtr, s_geq, s_not, s_and, s_beq, s_add, s_sub, s_mul, s_wrap, s_diff, s_max, s_min, s_quo, s_rem, s_quo32, s_rem32, s_quo64, s_rem64, s_zerosI, s_cat, wi, wrap_u32', wrap_u64', wrap_u8', decide_eq_true_eq, decide_eq_false_iff_not, beq_iff_eq, beq_eq_false_iff_ne, bne_iff_ne, bne_eq_false_iff_eq, Bool.not_eq_true', Bool.not_eq_false', ne_eq, nc0, nc1, nc4, nc8, Int.toNat_natCast, Int.cast_ofNat_Int, Int.ofNat_eq_natCast, and_true, true_and, s_subL, s_shr32, s_shl32, s_or32]; (repeat' apply And.intro) <;> first | trivial | omega)
  refine AWP.seq ?_
  (refine AWP.seq (AWP.go k 100 [] ?_); (conv => { arg 1; cbv }); refine ⟨?_, ?_⟩; rotate_left; (try dsimp only [sthen, sblock]); rotate_right; (try exact obs_nil))
  refine AWP.block ?_
  refine AWP.loopP (fun x : Nat × LI => ⟨mkF [(0, .sli .u64 a), (1, .int .i64 N), (5, .osl 0 0 N), (6, .int .i64 x.1)] 33 0, [.row .u8 x.2]⟩)
    (fun x => x.1 ≤ N ∧ x.2.length = N ∧ ∀ j, j < x.1 → x.2.getD (N - 1 - j) 0 = ((V (65536 : Nat) a / 256 ^ j % 256 : Nat) : Int)) (fun x => N - x.1) (0, List.replicate N 0) ?_ ?_ ?_
  · subst_vars
    simp (disch := omega) only [obs_nil_iff, obs_cons_iff, s_ofNat, s_plus, s_len, s_rd, s_set, s_eql, s_neq, s_lss, s_leq, s_gtr, s_geq, s_not, s_and, s_beq, s_add, s_sub, s_mul, s_wrap, s_diff, s_max, s_min, s_quo, s_rem, s_quo32, s_rem32, s_quo64, s_rem64, s_zerosI, s_cat, wi, wrap_u32', wrap_u64', wrap_u8', decide_eq_true_eq, decide_eq_false_iff_not, beq_iff_eq, beq_eq_false_iff_ne, bne_iff_ne, bne_eq_false_iff_eq, Bool.not_eq_true', Bool.not_eq_false', ne_eq, nc0, nc1, nc4, nc8, Int.toNat_natCast, Int.cast_ofNat_Int, Int.ofNat_eq_natCast, and_true, true_and, s_subL, s_shr32, s_shl32, s_or32]
    (refine ⟨?_, ?_, rfl⟩ <;> repeat' (first | exact .nil | exact .any _ | exact .gone _ | exact .same _ | exact .lit _ _ | exact .nil _ | refine .cons ?_ ?_ | exact AvLe.int_eq (by first | rfl | (simp only [Int.ofNat_eq_natCast]; omega) | omega) | exact AvLe.lit_eq (by first | rfl | (simp only [Int.ofNat_eq_natCast]; omega) | omega) | exact AvLe.osl_eq (by first | rfl | (simp only [Int.ofNat_eq_natCast]; omega) | omega) (by first | rfl | (simp only [Int.ofNat_eq_natCast]; omega) | omega | (simp; done) | (simp; omega)) | refine BlLe.row_eq ?_))
  · exact ⟨Nat.zero_le _, by simp, fun j hj => absurd hj (by simp)⟩
  rintro ⟨i, out⟩ ⟨h1, h2, h3⟩
  dsimp only at h1 h2 h3
  have dj := da (i / 2)
  have hnext : i < N → (i + 1 ≤ N ∧ (out.set (N - 1 - i) ((V (65536 : Nat) a / 256 ^ i % 256 : Nat) : Int)).length = N ∧ ∀ j, j < i + 1 → (out.set (N - 1 - i) ((V (65536 : Nat) a / 256 ^ i % 256 : Nat) : Int)).getD (N - 1 - j) 0 = ((V (65536 : Nat) a / 256 ^ j % 256 : Nat) : Int)) := by
    intro d
    refine ⟨by omega, by simp [h2], fun j hj => ?_⟩
    rw [getD_set (by omega)]
    by_cases hji : j = i
    · rw [if_pos (by omega), hji]
    · rw [if_neg (by omega)]; exact h3 j (by omega)
  have e3 : ((i : Int) / 2).toNat = i / 2 := by omega
  by_cases d : i < N
  · have e4 : (0 + ((N : Int) - 1 - i)).toNat = N - 1 - i := by omega
    by_cases c : i % 2 = 1
    · have e := dig16 da (j := i / 2) (p := 8 * i) (r := 8) (s := 8) (by omega) (by omega)
      (refine AWP.seq (AWP.go k 100 [true] ?_); (conv => { arg 1; cbv }); refine ⟨?_, ?_⟩; rotate_left; (try dsimp only [sthen, sblock]); rotate_right; (try exact obs_nil))
      · (subst_vars; simp (disch := omega) only [obs_nil_iff, obs_cons_iff, s_ofNat, s_plus, s_len, s_rd, s_set, s_eql, s_neq, s_lss, s_leq, s_gtr, s_geq, s_not, s_and, s_beq, s_add, s_sub, s_mul, s_wrap, s_diff, s_max, s_min, s_quo, s_rem, s_quo32, s_rem32, s_quo64, s_rem64, s_zerosI, s_cat, wi, wrap_u32', wrap_u64', wrap_u8', decide_eq_true_eq, decide_eq_false_iff_not, beq_iff_eq, beq_eq_false_iff_ne, bne_iff_ne, bne_eq_false_iff_eq, Bool.not_eq_true', Bool.not_eq_false', ne_eq, nc0, nc1, nc4, nc8, Int.toNat_natCast, Int.cast_ofNat_Int, Int.ofNat_eq_natCast, and_true, true_and, s_subL, s_shr32, s_shl32, s_or32]; (repeat' apply And.intro) <;> first | trivial | omega)
      (refine AWP.seq (AWP.go k 100 [true] ?_); (conv => { arg 1; cbv }); refine ⟨?_, ?_⟩; rotate_left; (try dsimp only [sthen, sblock]); rotate_right; (try exact obs_nil))
      · subst_vars
        simp (disch := omega) only [nnP, obs_nil_iff, obs_cons_iff, s_ofNat, s_plus, s_len, s_rd, s_set, s_eql, s_neq, s_lss, s_leq, s_gtr, s_geq, s_not, s_and, s_beq, s_add, s_sub, s_mul, s_wrap, s_diff, s_max, s_min, s_quo, s_rem, s_quo32, s_rem32, s_quo64, s_rem64, s_zerosI, s_cat, wi, wrap_u32', wrap_u64', wrap_u8', decide_eq_true_eq, decide_eq_false_iff_not, beq_iff_eq, beq_eq_false_iff_ne, bne_iff_ne, bne_eq_false_iff_eq, Bool.not_eq_true', Bool.not_eq_false', ne_eq, nc0, nc1, nc4, nc8, Int.toNat_natCast, Int.cast_ofNat_Int, Int.ofNat_eq_natCast, and_true, true_and, s_subL, s_shr32, s_shl32, s_or32]
        omega
      (refine AWP.go k 100 [] ?_; (conv => { arg 1; cbv }); refine ⟨?_, ?_⟩; rotate_left; (try dsimp only [sthen, sblock]); rotate_right; (try exact obs_nil))
      apply handed.mk (i + 1, out.set (N - 1 - i) ((V (65536 : Nat) a / 256 ^ i % 256 : Nat) : Int))
      · subst_vars
        simp (disch := omega) only [rdW, e3, e4, obs_nil_iff, obs_cons_iff, s_ofNat, s_plus, s_len, s_rd, s_set, s_eql, s_neq, s_lss, s_leq, s_gtr, s_geq, s_not, s_and, s_beq, s_add, s_sub, s_mul, s_wrap, s_diff, s_max, s_min, s_quo, s_rem, s_quo32, s_rem32, s_quo64, s_rem64, s_zerosI, s_cat, wi, wrap_u32', wrap_u64', wrap_u8', decide_eq_true_eq, decide_eq_false_iff_not, beq_iff_eq, beq_eq_false_iff_ne, bne_iff_ne, bne_eq_false_iff_eq, Bool.not_eq_true', Bool.not_eq_false', ne_eq, nc0, nc1, nc4, nc8, Int.toNat_natCast, Int.cast_ofNat_Int, Int.ofNat_eq_natCast, and_true, true_and, s_subL, s_shr32, s_shl32, s_or32]
        (refine ⟨?_, ?_, rfl⟩ <;> repeat' (first | exact .nil | exact .any _ | exact .gone _ | exact .same _ | exact .lit _ _ | exact .nil _ | refine .cons ?_ ?_ | exact AvLe.int_eq (by first | rfl | (simp only [Int.ofNat_eq_natCast]; omega) | omega) | exact AvLe.lit_eq (by first | rfl | (simp only [Int.ofNat_eq_natCast]; omega) | omega) | exact AvLe.osl_eq (by first | rfl | (simp only [Int.ofNat_eq_natCast]; omega) | omega) (by first | rfl | (simp only [Int.ofNat_eq_natCast]; omega) | omega | (simp; done) | (simp; omega)) | refine BlLe.row_eq ?_))
        congr 1
        rw [show (256 : Nat) = 2 ^ 8 by decide, ← Nat.pow_mul, ← e]
        omega
      · exact hnext d
      · dsimp only; omega
    · have e := dig16 da (j := i / 2) (p := 8 * i) (r := 0) (s := 8) (by omega) (by omega)
      (refine AWP.seq (AWP.go k 100 [true] ?_); (conv => { arg 1; cbv }); refine ⟨?_, ?_⟩; rotate_left; (try dsimp only [sthen, sblock]); rotate_right; (try exact obs_nil))
      · (subst_vars; simp (disch := omega) only [obs_nil_iff, obs_cons_iff, s_ofNat, s_plus, s_len, s_rd, s_set, s_eql, s_neq, s_lss, s_leq, s_gtr, s_geq, s_not, s_and, s_beq, s_add, s_sub, s_mul, s_wrap, s_diff, s_max, s_min, s_quo, s_rem, s_quo32, s_rem32, s_quo64, s_rem64, s_zerosI, s_cat, wi, wrap_u32', wrap_u64', wrap_u8', decide_eq_true_eq, decide_eq_false_iff_not, beq_iff_eq, beq_eq_false_iff_ne, bne_iff_ne, bne_eq_false_iff_eq, Bool.not_eq_true', Bool.not_eq_false', ne_eq, nc0, nc1, nc4, nc8, Int.toNat_natCast, Int.cast_ofNat_Int, Int.ofNat_eq_natCast, and_true, true_and, s_subL, s_shr32, s_shl32, s_or32]; (repeat' apply And.intro) <;> first | trivial | omega)
      (refine AWP.seq (AWP.go k 100 [false] ?_); (conv => { arg 1; cbv }); refine ⟨?_, ?_⟩; rotate_left; (try dsimp only [sthen, sblock]); rotate_right; (try exact obs_nil))
      · subst_vars
        simp (disch := omega) only [nnP, obs_nil_iff, obs_cons_iff, s_ofNat, s_plus, s_len, s_rd, s_set, s_eql, s_neq, s_lss, s_leq, s_gtr, s_geq, s_not, s_and, s_beq, s_add, s_sub, s_mul, s_wrap, s_diff, s_max, s_min, s_quo, s_rem, s_quo32, s_rem32, s_quo64, s_rem64, s_zerosI, s_cat, wi, wrap_u32', wrap_u64', wrap_u8', decide_eq_true_eq, decide_eq_false_iff_not, beq_iff_eq, beq_eq_false_iff_ne, bne_iff_ne, bne_eq_false_iff_eq, Bool.not_eq_true', Bool.not_eq_false', ne_eq, nc0, nc1, nc4, nc8, Int.toNat_natCast, Int.cast_ofNat_Int, Int.ofNat_eq_natCast, and_true, true_and, s_subL, s_shr32, s_shl32, s_or32]
        omega
      (refine AWP.go k 100 [] ?_; (conv => { arg 1; cbv }); refine ⟨?_, ?_⟩; rotate_left; (try dsimp only [sthen, sblock]); rotate_right; (try exact obs_nil))
      apply handed.mk (i + 1, out.set (N - 1 - i) ((V (65536 : Nat) a / 256 ^ i % 256 : Nat) : Int))
      · subst_vars
        simp (disch := omega) only [rdW, e3, e4, obs_nil_iff, obs_cons_iff, s_ofNat, s_plus, s_len, s_rd, s_set, s_eql, s_neq, s_lss, s_leq, s_gtr, s_geq, s_not, s_and, s_beq, s_add, s_sub, s_mul, s_wrap, s_diff, s_max, s_min, s_quo, s_rem, s_quo32, s_rem32, s_quo64, s_rem64, s_zerosI, s_cat, wi, wrap_u32', wrap_u64', wrap_u8', decide_eq_true_eq, decide_eq_false_iff_not, beq_iff_eq, beq_eq_false_iff_ne, bne_iff_ne, bne_eq_false_iff_eq, Bool.not_eq_true', Bool.not_eq_false', ne_eq, nc0, nc1, nc4, nc8, Int.toNat_natCast, Int.cast_ofNat_Int, Int.ofNat_eq_natCast, and_true, true_and, s_subL, s_shr32, s_shl32, s_or32]
        (refine ⟨?_, ?_, rfl⟩ <;> repeat' (first | exact .nil | exact .any _ | exact .gone _ | exact .same _ | exact .lit _ _ | exact .nil _ | refine .cons ?_ ?_ | exact AvLe.int_eq (by first | rfl | (simp only [Int.ofNat_eq_natCast]; omega) | omega) | exact AvLe.lit_eq (by first | rfl | (simp only [Int.ofNat_eq_natCast]; omega) | omega) | exact AvLe.osl_eq (by first | rfl | (simp only [Int.ofNat_eq_natCast]; omega) | omega) (by first | rfl | (simp only [Int.ofNat_eq_natCast]; omega) | omega | (simp; done) | (simp; omega)) | refine BlLe.row_eq ?_))
        congr 1
        rw [show (256 : Nat) = 2 ^ 8 by decide, ← Nat.pow_mul, ← e]
        omega
      · exact hnext d
      · dsimp only; omega
  · (refine AWP.seq (AWP.go k 100 [false] ?_); (conv => { arg 1; cbv }); refine ⟨?_, ?_⟩; rotate_left; (try dsimp only [sthen, sblock]); rotate_right; (try exact obs_nil))
    · (subst_vars; simp (disch := omega) only [obs_nil_iff, obs_cons_iff, s_ofNat, s_plus, s_len, s_rd, s_set, s_eql, s_neq, s_lss, s_leq, s_gtr, s_geq, s_not, s_and, s_beq, s_add, s_sub, s_mul, s_wrap, s_diff, s_max, s_min, s_quo, s_rem, s_quo32, s_rem32, s_quo64, s_rem64, s_zerosI, s_cat, wi, wrap_u32', wrap_u64', wrap_u8', decide_eq_true_eq, decide_eq_false_iff_not, beq_iff_eq, beq_eq_false_iff_ne, bne_iff_ne, bne_eq_false_iff_eq, Bool.not_eq_true', Bool.not_eq_false', ne_eq, nc0, nc1, nc4, nc8, Int.toNat_natCast, Int.cast_ofNat_Int, Int.ofNat_eq_natCast, and_true, true_and, s_subL, s_shr32, s_shl32, s_or32]; (repeat' apply And.intro) <;> first | trivial | omega)
    (dsimp only [handed, handedR, sblock, sthen]; rw [if_pos rfl])
    have hi : i = N := by omega
    subst hi
    (refine AWP.seq (AWP.go k 100 [] ?_); (conv => { arg 1; cbv }); refine ⟨?_, ?_⟩; rotate_left; (try dsimp only [sthen, sblock]); rotate_right; (try exact obs_nil))
    (refine AWP.go k 100 [] ?_; (conv => { arg 1; cbv }); refine ⟨?_, ?_⟩; rotate_left; (try dsimp only [sthen, sblock]); rotate_right; (try exact obs_nil))
    (refine ⟨fun id => by simp, ?_⟩; conv => { lhs; cbv })
    rw [flV, Int.toNat_natCast, ← beV_of h2 h3]
    subst_vars
    simp (disch := omega) only [obs_nil_iff, obs_cons_iff, s_ofNat, s_plus, s_len, s_rd, s_set, s_eql, s_neq, s_lss, s_leq, s_gtr, s_geq, s_not, s_and, s_beq, s_add, s_sub, s_mul, s_wrap, s_diff, s_max, s_min, s_quo, s_rem, s_quo32, s_rem32, s_quo64, s_rem64, s_zerosI, s_cat, wi, wrap_u32', wrap_u64', wrap_u8', decide_eq_true_eq, decide_eq_false_iff_not, beq_iff_eq, beq_eq_false_iff_ne, bne_iff_ne, bne_eq_false_iff_eq, Bool.not_eq_true', Bool.not_eq_false', ne_eq, nc0, nc1, nc4, nc8, Int.toNat_natCast, Int.cast_ofNat_Int, Int.ofNat_eq_natCast, and_true, true_and, s_subL, s_shr32, s_shl32, s_or32]
    simp
theorem h_rfill : Holds Try.prog 55 (gDI_Bp stdAr flV flP) := holds_DI_Bp fun a n ha hn hp => by
  unfold flP at hp
  rw [Bool.and_eq_true, decide_eq_true_eq, whP_iff] at hp
  exact w_rfill _ rfl _ rfl _ rfl ⟨h_digit, trivial⟩ a n hp.1.1 hp.2
theorem flV_dg {a : LI} {n : Int} (da : Dg (4294967296 : Nat) a) (la : a.length ≤ 1048576) : flV (dgD a) n = laV a n := by
  unfold flV laV; rw [(dgD_ok da la).2.1]
theorem flP_dg {a : LI} {n : Int} (da : Dg (4294967296 : Nat) a) (la : a.length ≤ 1048576) (hn : 0 ≤ n ∧ n ≤ 4294967296) : flP (dgD a) n = true := by
  unfold flP; rw [(dgD_ok da la).1, decide_eq_true hn]; rfl
theorem w_rbytes (A : Ar) (hA : A = stdAr) (dg : LI → LI) (hdg : dg = dgD) (s1 : LI → Bool) (hs1 : s1 = sz1) (bi : LI → Int) (hbi : bi = biV) (fl : LI → Int → LI) (hfl : fl = flV) (fp : LI → Int → Bool) (hfp : fp = flP)
    (hG : allHold Try.prog [(47, gS_Dp dg s1), (21, gS_Ip bi s1), (55, gDI_Bp A fl fp)]) (a : LI) (ha : Nm .u32 a) (h1 : a.length ≤ 1048576) : FCall Try.prog 29 [.sli .u32 a] (.sli .u8 (byV a)) := by
  have da := nm32 ha
  have hb := biV_le da
  have e := flV_dg (n := lgV a) da h1
  have hl := lgV_le da
  have p := flP_dg (n := lgV a) da h1 (by omega)
  have hd : stdAr.bin .quo .i64 (stdAr.bin .add .i64 (biV a) 7) 8 = lgV a := by simp (disch := omega) only [obs_nil_iff, obs_cons_iff, s_ofNat, s_plus, s_len, s_rd, s_set, s_eql, s_neq, s_lss, s_leq, s_gtr, s_geq, s_not, s_and, s_beq, s_add, s_sub, s_mul, s_wrap, s_diff, s_max, s_min, s_quo, s_rem, s_quo32, s_rem32, s_quo64, s_rem64, s_zerosI, s_cat, wi, wrap_u32', wrap_u64', wrap_u8', decide_eq_true_eq, decide_eq_false_iff_not, beq_iff_eq, beq_eq_false_iff_ne, bne_iff_ne, bne_eq_false_iff_eq, Bool.not_eq_true', Bool.not_eq_false', ne_eq, nc0, nc1, nc4, nc8, Int.toNat_natCast, Int.cast_ofNat_Int, Int.ofNat_eq_natCast, and_true, true_and, s_subL, s_shr32, s_shl32, s_or32]; rfl
  (refine FCall.exec (ok_of hA hG) (fn := Try.f29) 100 [] rfl rfl rfl (fun _ => ?_); (conv => { arg 1; cbv }); refine ⟨?_, ?_⟩; (try exact obs_nil))
  · subst_vars; simp (disch := omega) only [sz1, obs_nil_iff, obs_cons_iff, s_ofNat, s_plus, s_len, s_rd, s_set, s_eql, s_neq, s_lss, s_leq, s_gtr, s_geq, s_not, s_and, s_beq, s_add, s_sub, s_mul, s_wrap, s_diff, s_max, s_min, s_quo, s_rem, s_quo32, s_rem32, s_quo64, s_rem64, s_zerosI, s_cat, wi, wrap_u32', wrap_u64', wrap_u8', decide_eq_true_eq, decide_eq_false_iff_not, beq_iff_eq, beq_eq_false_iff_ne, bne_iff_ne, bne_eq_false_iff_eq, Bool.not_eq_true', Bool.not_eq_false', ne_eq, nc0, nc1, nc4, nc8, Int.toNat_natCast, Int.cast_ofNat_Int, Int.ofNat_eq_natCast, and_true, true_and, s_subL, s_shr32, s_shl32, s_or32]
    rw [show (biV a + 7) / 8 = lgV a from rfl, p]
    simp
    omega
  · subst_vars
    show AV.sli .u8 (flV (dgD a) (stdAr.bin .quo .i64 (stdAr.bin .add .i64 (biV a) 7) 8)) = _
    rw [hd, e]; rfl
theorem h_rbytes : Holds Try.prog 29 (gS_Bp byV sz1) := holds_S_Bp fun a ha hp => w_rbytes _ rfl _ rfl _ rfl _ rfl _ rfl _ rfl ⟨h_digits, h_rbits, h_rfill, trivial⟩ a ha (of_decide_eq_true hp)
theorem w_rfillN (A : Ar) (hA : A = stdAr) (dg : LI → LI) (hdg : dg = dgD) (s1 : LI → Bool) (hs1 : s1 = sz1) (bi : LI → Int) (hbi : bi = biV) (fl : LI → Int → LI) (hfl : fl = flV) (fp : LI → Int → Bool) (hfp : fp = flP)
    (hG : allHold Try.prog [(47, gS_Dp dg s1), (21, gS_Ip bi s1), (55, gDI_Bp A fl fp)]) (a : LI) (n : Int) (ha : Nm .u32 a) (h1 : a.length ≤ 1048576) : FCall Try.prog 25 [.sli .u32 a, .int .i64 n] (.tup [.sli .u8 (fiB a n), .int .i64 (fiE a n)]) := by
  have k := ok_of hA hG
  have da := nm32 ha
  have hb := biV_le da
  have hl : lgV a = (biV a + 7) / 8 := rfl
  by_cases c1 : n < 0
  · rw [fiB, fiE, if_pos (.inl c1), if_pos (.inl c1)]
    (refine FCall.exec k (fn := Try.f25) 100 [true, true, true] rfl rfl rfl (fun _ => ?_); (conv => { arg 1; cbv }); refine ⟨?_, ?_⟩; (try exact obs_nil))
    · (subst_vars; simp (disch := omega) only [obs_nil_iff, obs_cons_iff, s_ofNat, s_plus, s_len, s_rd, s_set, s_eql, s_neq, s_lss, s_leq, s_gtr, s_geq, s_not, s_and, s_beq, s_add, s_sub, s_mul, s_wrap, s_diff, s_max, s_min, s_quo, s_rem, s_quo32, s_rem32, s_quo64, s_rem64, s_zerosI, s_cat, wi, wrap_u32', wrap_u64', wrap_u8', decide_eq_true_eq, decide_eq_false_iff_not, beq_iff_eq, beq_eq_false_iff_ne, bne_iff_ne, bne_eq_false_iff_eq, Bool.not_eq_true', Bool.not_eq_false', ne_eq, nc0, nc1, nc4, nc8, Int.toNat_natCast, Int.cast_ofNat_Int, Int.ofNat_eq_natCast, and_true, true_and, s_subL, s_shr32, s_shl32, s_or32]; (repeat' apply And.intro) <;> first | trivial | omega)
    · subst_vars; rfl
  by_cases c2 : 8192 < n
  · rw [fiB, fiE, if_pos (.inr (.inl c2)), if_pos (.inr (.inl c2))]
    (refine FCall.exec k (fn := Try.f25) 100 [false, false, false, true, true, true, true, true, true, true, true] rfl rfl rfl (fun _ => ?_); (conv => { arg 1; cbv }); refine ⟨?_, ?_⟩; (try exact obs_nil))
    · (subst_vars; simp (disch := omega) only [obs_nil_iff, obs_cons_iff, s_ofNat, s_plus, s_len, s_rd, s_set, s_eql, s_neq, s_lss, s_leq, s_gtr, s_geq, s_not, s_and, s_beq, s_add, s_sub, s_mul, s_wrap, s_diff, s_max, s_min, s_quo, s_rem, s_quo32, s_rem32, s_quo64, s_rem64, s_zerosI, s_cat, wi, wrap_u32', wrap_u64', wrap_u8', decide_eq_true_eq, decide_eq_false_iff_not, beq_iff_eq, beq_eq_false_iff_ne, bne_iff_ne, bne_eq_false_iff_eq, Bool.not_eq_true', Bool.not_eq_false', ne_eq, nc0, nc1, nc4, nc8, Int.toNat_natCast, Int.cast_ofNat_Int, Int.ofNat_eq_natCast, and_true, true_and, s_subL, s_shr32, s_shl32, s_or32]; (repeat' apply And.intro) <;> first | trivial | omega)
    · subst_vars; rfl
  by_cases c3 : n < lgV a
  · rw [fiB, fiE, if_pos (.inr (.inr c3)), if_pos (.inr (.inr c3))]
    (refine FCall.exec k (fn := Try.f25) 100 [false, false, false, false, false, false, false, false, false, false, true] rfl rfl rfl (fun _ => ?_); (conv => { arg 1; cbv }); refine ⟨?_, ?_⟩; (try exact obs_nil))
    · subst_vars; simp (disch := omega) only [sz1, obs_nil_iff, obs_cons_iff, s_ofNat, s_plus, s_len, s_rd, s_set, s_eql, s_neq, s_lss, s_leq, s_gtr, s_geq, s_not, s_and, s_beq, s_add, s_sub, s_mul, s_wrap, s_diff, s_max, s_min, s_quo, s_rem, s_quo32, s_rem32, s_quo64, s_rem64, s_zerosI, s_cat, wi, wrap_u32', wrap_u64', wrap_u8', decide_eq_true_eq, decide_eq_false_iff_not, beq_iff_eq, beq_eq_false_iff_ne, bne_iff_ne, bne_eq_false_iff_eq, Bool.not_eq_true', Bool.not_eq_false', ne_eq, nc0, nc1, nc4, nc8, Int.toNat_natCast, Int.cast_ofNat_Int, Int.ofNat_eq_natCast, and_true, true_and, s_subL, s_shr32, s_shl32, s_or32]; omega
    · subst_vars; rfl
  · have hno : ¬ fiNo a n := fun h => h.elim c1 fun h => h.elim c2 c3
    rw [fiB, fiE, if_neg hno, if_neg hno]
    have p := flP_dg (n := n) da h1 (by omega)
    have e := flV_dg (n := n) da h1
    (refine FCall.exec k (fn := Try.f25) 100 [false, false, false, false, false, false, false, false, false, false, false] rfl rfl rfl (fun _ => ?_); (conv => { arg 1; cbv }); refine ⟨?_, ?_⟩; (try exact obs_nil))
    · subst_vars; simp (disch := omega) only [sz1, p, obs_nil_iff, obs_cons_iff, s_ofNat, s_plus, s_len, s_rd, s_set, s_eql, s_neq, s_lss, s_leq, s_gtr, s_geq, s_not, s_and, s_beq, s_add, s_sub, s_mul, s_wrap, s_diff, s_max, s_min, s_quo, s_rem, s_quo32, s_rem32, s_quo64, s_rem64, s_zerosI, s_cat, wi, wrap_u32', wrap_u64', wrap_u8', decide_eq_true_eq, decide_eq_false_iff_not, beq_iff_eq, beq_eq_false_iff_ne, bne_iff_ne, bne_eq_false_iff_eq, Bool.not_eq_true', Bool.not_eq_false', ne_eq, nc0, nc1, nc4, nc8, Int.toNat_natCast, Int.cast_ofNat_Int, Int.ofNat_eq_natCast, and_true, true_and, s_subL, s_shr32, s_shl32, s_or32]; omega
    · subst_vars; rw [e]; rfl
theorem h_rfillN : Holds Try.prog 25 (gSI_BIp stdAr fiB fiE sz1I) := holds_SI_BIp fun a n ha hn hp => w_rfillN _ rfl _ rfl _ rfl _ rfl _ rfl _ rfl ⟨h_digits, h_rbits, h_rfill, trivial⟩ a n ha (of_decide_eq_true hp)
end Go.Proofs.SX

namespace Go.Proofs.SX
open Go Go.Proofs
set_option maxRecDepth 100000
set_option linter.unusedVariables false
set_option linter.unusedSimpArgs false
/-- A byte that has come. -/
def qL (r : LI) (m p : Nat) : Int := if p < m then r.getD p 0 else 0
theorem qL_all {r row : LI} (h : Dg 256 r) (hl : r.length ≤ 2 * row.length) (hw : ∀ j, j < row.length → row.getD j 0 = r.getD (2 * j) 0 + r.getD (2 * j + 1) 0 * 256) : Dg (65536 : Nat) row ∧ V (65536 : Nat) row = V 256 r := by
  have hd : Dg (65536 : Nat) row := fun j => by
    by_cases hj : j < row.length
    · rw [hw j hj]; have := h (2 * j); have := h (2 * j + 1); omega
    · rw [getD_big (by omega)]; omega
  refine ⟨hd, ?_⟩
  have key : ∀ j, j ≤ row.length → pre (65536 : Nat) row j = pre 256 r (2 * j) := by
    intro j
    induction j with
    | zero => intro _; rfl
    | succ j ih =>
      intro hj
      rw [pre_succ, ih (by omega), hw j (by omega)]
      show _ = pre 256 r (2 * j + 1 + 1)
      rw [pre_succ, pre_succ]
      have h0 := h (2 * j)
      have h1 := h (2 * j + 1)
      have e : (r.getD (2 * j) 0 + r.getD (2 * j + 1) 0 * 256).toNat = (r.getD (2 * j) 0).toNat + (r.getD (2 * j + 1) 0).toNat * 256 := by omega
      have ep : (65536 : Nat) ^ j = 256 ^ (2 * j) := by rw [Nat.pow_mul]
      rw [e, ep, Nat.pow_succ, Nat.add_mul, Nat.mul_assoc _ 256, Nat.mul_comm 256]
      omega
  show pre (65536 : Nat) row row.length = _
  rw [key _ (Nat.le_refl _), pre_ge hl]
theorem w_rread (A : Ar) (hA : A = stdAr) (wh : LI → LI) (hwh : wh = whW) (wp : LI → Bool) (hwp : wp = whP) (hG : allHold Try.prog [(45, gD_Sp wh wp)]) (b : LI) (hb : Nm .u8 b) (lb : b.length ≤ 1048576) :
    FCall Try.prog 27 [.sli .u8 b] (.sli .u32 (reW b)) := by
  have k := ok_of hA hG
  have db := (nm8 hb).reverse (by decide)
  have hr : ∀ i, i < b.length → b.getD (b.length - 1 - i) 0 = b.reverse.getD i 0 := fun i hi => by
    rw [getD_rev (by omega)]
  have hL : b.reverse.length = b.length := List.length_reverse
  refine FCall.of_body k (fn := Try.f27) rfl rfl rfl rfl (fun _ => ?_)
  (refine AWP.seq (AWP.go k 100 [] ?_); (conv => { arg 1; cbv }); refine ⟨?_, ?_⟩; rotate_left; (try dsimp only [sthen, sblock]); rotate_right; (try exact obs_nil))
  (refine AWP.seq (AWP.go k 100 [] ?_); (conv => { arg 1; cbv }); refine ⟨?_, ?_⟩; rotate_left; (try dsimp only [sthen, sblock]); rotate_right; (try exact obs_nil))
  · (subst_vars; simp (disch := omega) only [obs_nil_iff, obs_cons_iff, s_ofNat, s_plus, s_len, s_rd, s_set, s_eql, s_neq, s_lss, s_leq, s_gtr, s_geq, s_not, s_and, s_beq, s_add, s_sub, s_mul, s_wrap, s_diff, s_max, s_min, s_quo, s_rem, s_quo32, s_rem32, s_quo64, s_rem64, s_zerosI, s_cat, wi, wrap_u32', wrap_u64', wrap_u8', decide_eq_true_eq, decide_eq_false_iff_not, beq_iff_eq, beq_eq_false_iff_ne, bne_iff_ne, bne_eq_false_iff_eq, Bool.not_eq_true', Bool.not_eq_false', ne_eq, nc0, nc1, nc4, nc8, Int.toNat_natCast, Int.cast_ofNat_Int, Int.ofNat_eq_natCast, and_true, true_and, s_subL, s_shr32, s_shl32, s_or32]; (repeat' apply And.intro) <;> first | trivial | omega)
  refine AWP.seq ?_
  (refine AWP.seq (AWP.go k 100 [] ?_); (conv => { arg 1; cbv }); refine ⟨?_, ?_⟩; rotate_left; (try dsimp only [sthen, sblock]); rotate_right; (try exact obs_nil))
  obtain ⟨N, hN, hN2⟩ : ∃ N : Nat, (b.length : Int) / 2 + 1 = (N : Int) ∧ N = b.length / 2 + 1 := ⟨b.length / 2 + 1, by omega, rfl⟩
  refine AWP.block ?_
  refine AWP.loopP (fun x : Nat × LI => ⟨mkF [(0, .sli .u8 b), (3, .osl 0 0 N), (4, .int .i64 x.1)] 44 0, [.row .u64 x.2]⟩)
    (fun x => x.1 ≤ b.length ∧ x.2.length = N ∧ ∀ j, j < N → x.2.getD j 0 = qL b.reverse x.1 (2 * j) + qL b.reverse x.1 (2 * j + 1) * 256) (fun x => b.length - x.1) (0, List.replicate N 0) ?_ ?_ ?_
  · subst_vars
    simp (disch := omega) only [hN, obs_nil_iff, obs_cons_iff, s_ofNat, s_plus, s_len, s_rd, s_set, s_eql, s_neq, s_lss, s_leq, s_gtr, s_geq, s_not, s_and, s_beq, s_add, s_sub, s_mul, s_wrap, s_diff, s_max, s_min, s_quo, s_rem, s_quo32, s_rem32, s_quo64, s_rem64, s_zerosI, s_cat, wi, wrap_u32', wrap_u64', wrap_u8', decide_eq_true_eq, decide_eq_false_iff_not, beq_iff_eq, beq_eq_false_iff_ne, bne_iff_ne, bne_eq_false_iff_eq, Bool.not_eq_true', Bool.not_eq_false', ne_eq, nc0, nc1, nc4, nc8, Int.toNat_natCast, Int.cast_ofNat_Int, Int.ofNat_eq_natCast, and_true, true_and, s_subL, s_shr32, s_shl32, s_or32]
    (refine ⟨?_, ?_, rfl⟩ <;> repeat' (first | exact .nil | exact .any _ | exact .gone _ | exact .same _ | exact .lit _ _ | exact .nil _ | refine .cons ?_ ?_ | exact AvLe.int_eq (by first | rfl | (simp only [Int.ofNat_eq_natCast]; omega) | omega) | exact AvLe.lit_eq (by first | rfl | (simp only [Int.ofNat_eq_natCast]; omega) | omega) | exact AvLe.osl_eq (by first | rfl | (simp only [Int.ofNat_eq_natCast]; omega) | omega) (by first | rfl | (simp only [Int.ofNat_eq_natCast]; omega) | omega | (simp; done) | (simp; omega)) | refine BlLe.row_eq ?_))
  · refine ⟨Nat.zero_le _, by simp, fun j hj => ?_⟩
    simp [qL, List.getD_eq_getElem?_getD, List.getElem?_replicate, hj]
  rintro ⟨i, row⟩ ⟨h1, h2, h3⟩
  dsimp only at h1 h2 h3
  have qs : ∀ p, p ≠ i → qL b.reverse (i + 1) p = qL b.reverse i p := fun p hp => by
    unfold qL
    by_cases c : p < i
    · rw [if_pos c, if_pos (by omega)]
    · rw [if_neg c, if_neg (by omega)]
  have q1 : qL b.reverse (i + 1) i = b.reverse.getD i 0 := if_pos (by omega)
  have q0 : qL b.reverse i i = 0 := if_neg (by omega)
  have q2 : qL b.reverse i (i + 1) = 0 := if_neg (by omega)
  have di := db i
  have dp : ∀ p, 0 ≤ qL b.reverse i p ∧ qL b.reverse i p < 256 := fun p => by
    unfold qL; split
    · have := db p; omega
    · omega
  by_cases d : i < b.length
  · have e1 := hr i d
    have e5 : ((b.length : Int) - 1 - i).toNat = b.length - 1 - i := by omega
    have e3 : ((i : Int) / 2).toNat = i / 2 := by omega
    have e4 : (0 + (i : Int) / 2).toNat = i / 2 := by omega
    have ej := h3 (i / 2) (by omega)
    have d1 := dp (2 * (i / 2))
    have d2 := dp (2 * (i / 2) + 1)
    have hnext : ∀ v, v = qL b.reverse (i + 1) (2 * (i / 2)) + qL b.reverse (i + 1) (2 * (i / 2) + 1) * 256 → (i + 1 ≤ b.length ∧ (row.set (i / 2) v).length = N ∧ ∀ j, j < N → (row.set (i / 2) v).getD j 0 = qL b.reverse (i + 1) (2 * j) + qL b.reverse (i + 1) (2 * j + 1) * 256) := by
      intro v hv
      refine ⟨by omega, by simp [h2], fun j hj => ?_⟩
      rw [getD_set (by omega)]
      by_cases hji : j = i / 2
      · rw [if_pos hji, hji, hv]
      · rw [if_neg hji, h3 j hj, qs _ (by omega), qs _ (by omega)]
    by_cases c : i % 2 = 1
    · (refine AWP.seq (AWP.go k 100 [true] ?_); (conv => { arg 1; cbv }); refine ⟨?_, ?_⟩; rotate_left; (try dsimp only [sthen, sblock]); rotate_right; (try exact obs_nil))
      · (subst_vars; simp (disch := omega) only [obs_nil_iff, obs_cons_iff, s_ofNat, s_plus, s_len, s_rd, s_set, s_eql, s_neq, s_lss, s_leq, s_gtr, s_geq, s_not, s_and, s_beq, s_add, s_sub, s_mul, s_wrap, s_diff, s_max, s_min, s_quo, s_rem, s_quo32, s_rem32, s_quo64, s_rem64, s_zerosI, s_cat, wi, wrap_u32', wrap_u64', wrap_u8', decide_eq_true_eq, decide_eq_false_iff_not, beq_iff_eq, beq_eq_false_iff_ne, bne_iff_ne, bne_eq_false_iff_eq, Bool.not_eq_true', Bool.not_eq_false', ne_eq, nc0, nc1, nc4, nc8, Int.toNat_natCast, Int.cast_ofNat_Int, Int.ofNat_eq_natCast, and_true, true_and, s_subL, s_shr32, s_shl32, s_or32]; (repeat' apply And.intro) <;> first | trivial | omega)
      (refine AWP.seq (AWP.go k 100 [true] ?_); (conv => { arg 1; cbv }); refine ⟨?_, ?_⟩; rotate_left; (try dsimp only [sthen, sblock]); rotate_right; (try exact obs_nil))
      · (subst_vars; simp (disch := omega) only [obs_nil_iff, obs_cons_iff, s_ofNat, s_plus, s_len, s_rd, s_set, s_eql, s_neq, s_lss, s_leq, s_gtr, s_geq, s_not, s_and, s_beq, s_add, s_sub, s_mul, s_wrap, s_diff, s_max, s_min, s_quo, s_rem, s_quo32, s_rem32, s_quo64, s_rem64, s_zerosI, s_cat, wi, wrap_u32', wrap_u64', wrap_u8', decide_eq_true_eq, decide_eq_false_iff_not, beq_iff_eq, beq_eq_false_iff_ne, bne_iff_ne, bne_eq_false_iff_eq, Bool.not_eq_true', Bool.not_eq_false', ne_eq, nc0, nc1, nc4, nc8, Int.toNat_natCast, Int.cast_ofNat_Int, Int.ofNat_eq_natCast, and_true, true_and, s_subL, s_shr32, s_shl32, s_or32]; (repeat' apply And.intro) <;> first | trivial | omega)
      (refine AWP.go k 100 [] ?_; (conv => { arg 1; cbv }); refine ⟨?_, ?_⟩; rotate_left; (try dsimp only [sthen, sblock]); rotate_right; (try exact obs_nil))
      apply handed.mk (i + 1, row.set (i / 2) (row.getD (i / 2) 0 + b.reverse.getD i 0 * 256))
      · subst_vars
        simp (disch := omega) only [e3, e4, e5, e1, Int.emod_eq_of_lt, obs_nil_iff, obs_cons_iff, s_ofNat, s_plus, s_len, s_rd, s_set, s_eql, s_neq, s_lss, s_leq, s_gtr, s_geq, s_not, s_and, s_beq, s_add, s_sub, s_mul, s_wrap, s_diff, s_max, s_min, s_quo, s_rem, s_quo32, s_rem32, s_quo64, s_rem64, s_zerosI, s_cat, wi, wrap_u32', wrap_u64', wrap_u8', decide_eq_true_eq, decide_eq_false_iff_not, beq_iff_eq, beq_eq_false_iff_ne, bne_iff_ne, bne_eq_false_iff_eq, Bool.not_eq_true', Bool.not_eq_false', ne_eq, nc0, nc1, nc4, nc8, Int.toNat_natCast, Int.cast_ofNat_Int, Int.ofNat_eq_natCast, and_true, true_and, s_subL, s_shr32, s_shl32, s_or32]
        (refine ⟨?_, ?_, rfl⟩ <;> repeat' (first | exact .nil | exact .any _ | exact .gone _ | exact .same _ | exact .lit _ _ | exact .nil _ | refine .cons ?_ ?_ | exact AvLe.int_eq (by first | rfl | (simp only [Int.ofNat_eq_natCast]; omega) | omega) | exact AvLe.lit_eq (by first | rfl | (simp only [Int.ofNat_eq_natCast]; omega) | omega) | exact AvLe.osl_eq (by first | rfl | (simp only [Int.ofNat_eq_natCast]; omega) | omega) (by first | rfl | (simp only [Int.ofNat_eq_natCast]; omega) | omega | (simp; done) | (simp; omega)) | refine BlLe.row_eq ?_))
      · refine hnext _ ?_
        rw [ej, show 2 * (i / 2) + 1 = i by omega, q1, q0, qs _ (by omega)]; omega
      · dsimp only; omega
    · (refine AWP.seq (AWP.go k 100 [true] ?_); (conv => { arg 1; cbv }); refine ⟨?_, ?_⟩; rotate_left; (try dsimp only [sthen, sblock]); rotate_right; (try exact obs_nil))
      · (subst_vars; simp (disch := omega) only [obs_nil_iff, obs_cons_iff, s_ofNat, s_plus, s_len, s_rd, s_set, s_eql, s_neq, s_lss, s_leq, s_gtr, s_geq, s_not, s_and, s_beq, s_add, s_sub, s_mul, s_wrap, s_diff, s_max, s_min, s_quo, s_rem, s_quo32, s_rem32, s_quo64, s_rem64, s_zerosI, s_cat, wi, wrap_u32', wrap_u64', wrap_u8', decide_eq_true_eq, decide_eq_false_iff_not, beq_iff_eq, beq_eq_false_iff_ne, bne_iff_ne, bne_eq_false_iff_eq, Bool.not_eq_true', Bool.not_eq_false', ne_eq, nc0, nc1, nc4, nc8, Int.toNat_natCast, Int.cast_ofNat_Int, Int.ofNat_eq_natCast, and_true, true_and, s_subL, s_shr32, s_shl32, s_or32]; (repeat' apply And.intro) <;> first | trivial | omega)
      (refine AWP.seq (AWP.go k 100 [false] ?_); (conv => { arg 1; cbv }); refine ⟨?_, ?_⟩; rotate_left; (try dsimp only [sthen, sblock]); rotate_right; (try exact obs_nil))
      · (subst_vars; simp (disch := omega) only [obs_nil_iff, obs_cons_iff, s_ofNat, s_plus, s_len, s_rd, s_set, s_eql, s_neq, s_lss, s_leq, s_gtr, s_geq, s_not, s_and, s_beq, s_add, s_sub, s_mul, s_wrap, s_diff, s_max, s_min, s_quo, s_rem, s_quo32, s_rem32, s_quo64, s_rem64, s_zerosI, s_cat, wi, wrap_u32', wrap_u64', wrap_u8', decide_eq_true_eq, decide_eq_false_iff_not, beq_iff_eq, beq_eq_false_iff_ne, bne_iff_ne, bne_eq_false_iff_eq, Bool.not_eq_true', Bool.not_eq_false', ne_eq, nc0, nc1, nc4, nc8, Int.toNat_natCast, Int.cast_ofNat_Int, Int.ofNat_eq_natCast, and_true, true_and, s_subL, s_shr32, s_shl32, s_or32]; (repeat' apply And.intro) <;> first | trivial | omega)
      (refine AWP.go k 100 [] ?_; (conv => { arg 1; cbv }); refine ⟨?_, ?_⟩; rotate_left; (try dsimp only [sthen, sblock]); rotate_right; (try exact obs_nil))
      apply handed.mk (i + 1, row.set (i / 2) (row.getD (i / 2) 0 + b.reverse.getD i 0))
      · subst_vars
        simp (disch := omega) only [e3, e4, e5, e1, Int.emod_eq_of_lt, obs_nil_iff, obs_cons_iff, s_ofNat, s_plus, s_len, s_rd, s_set, s_eql, s_neq, s_lss, s_leq, s_gtr, s_geq, s_not, s_and, s_beq, s_add, s_sub, s_mul, s_wrap, s_diff, s_max, s_min, s_quo, s_rem, s_quo32, s_rem32, s_quo64, s_rem64, s_zerosI, s_cat, wi, wrap_u32', wrap_u64', wrap_u8', decide_eq_true_eq, decide_eq_false_iff_not, beq_iff_eq, beq_eq_false_iff_ne, bne_iff_ne, bne_eq_false_iff_eq, Bool.not_eq_true', Bool.not_eq_false', ne_eq, nc0, nc1, nc4, nc8, Int.toNat_natCast, Int.cast_ofNat_Int, Int.ofNat_eq_natCast, and_true, true_and, s_subL, s_shr32, s_shl32, s_or32]
        (refine ⟨?_, ?_, rfl⟩ <;> repeat' (first | exact .nil | exact .any _ | exact .gone _ | exact .same _ | exact .lit _ _ | exact .nil _ | refine .cons ?_ ?_ | exact AvLe.int_eq (by first | rfl | (simp only [Int.ofNat_eq_natCast]; omega) | omega) | exact AvLe.lit_eq (by first | rfl | (simp only [Int.ofNat_eq_natCast]; omega) | omega) | exact AvLe.osl_eq (by first | rfl | (simp only [Int.ofNat_eq_natCast]; omega) | omega) (by first | rfl | (simp only [Int.ofNat_eq_natCast]; omega) | omega | (simp; done) | (simp; omega)) | refine BlLe.row_eq ?_))
      · refine hnext _ ?_
        rw [ej, show 2 * (i / 2) = i by omega, q1, q0, qs _ (by omega), q2]; omega
      · dsimp only; omega
  · have hi : i = b.length := by omega
    obtain ⟨hd, hv⟩ := qL_all (row := row) db (by omega) (fun j hj => by
      rw [h3 j (by omega)]
      have : ∀ p, qL b.reverse i p = b.reverse.getD p 0 := fun p => by
        unfold qL; split
        · rfl
        · rw [getD_big (by omega)]
      rw [this, this])
    have pw : whP row = true := whP_iff.2 ⟨hd, by omega⟩
    have hs : stdAr.sub row 0 (0 + (N : Int)) = row := by rw [← h2]; exact s_sub_all row
    (refine AWP.seq (AWP.go k 100 [false] ?_); (conv => { arg 1; cbv }); refine ⟨?_, ?_⟩; rotate_left; (try dsimp only [sthen, sblock]); rotate_right; (try exact obs_nil))
    · (subst_vars; simp (disch := omega) only [obs_nil_iff, obs_cons_iff, s_ofNat, s_plus, s_len, s_rd, s_set, s_eql, s_neq, s_lss, s_leq, s_gtr, s_geq, s_not, s_and, s_beq, s_add, s_sub, s_mul, s_wrap, s_diff, s_max, s_min, s_quo, s_rem, s_quo32, s_rem32, s_quo64, s_rem64, s_zerosI, s_cat, wi, wrap_u32', wrap_u64', wrap_u8', decide_eq_true_eq, decide_eq_false_iff_not, beq_iff_eq, beq_eq_false_iff_ne, bne_iff_ne, bne_eq_false_iff_eq, Bool.not_eq_true', Bool.not_eq_false', ne_eq, nc0, nc1, nc4, nc8, Int.toNat_natCast, Int.cast_ofNat_Int, Int.ofNat_eq_natCast, and_true, true_and, s_subL, s_shr32, s_shl32, s_or32]; (repeat' apply And.intro) <;> first | trivial | omega)
    (dsimp only [handed, handedR, sblock, sthen]; rw [if_pos rfl])
    (refine AWP.seq (AWP.go k 100 [] ?_); (conv => { arg 1; cbv }); refine ⟨?_, ?_⟩; rotate_left; (try dsimp only [sthen, sblock]); rotate_right; (try exact obs_nil))
    · subst_vars; simp only [obs_nil_iff, obs_cons_iff, s_plus, Int.ofNat_eq_natCast, hs, pw, and_true]
    (refine AWP.go k 100 [] ?_; (conv => { arg 1; cbv }); refine ⟨?_, ?_⟩; rotate_left; (try dsimp only [sthen, sblock]); rotate_right; (try exact obs_nil))
    (refine ⟨fun id => by simp, ?_⟩; conv => { lhs; cbv })
    rw [reW, ← hv]
    subst_vars
    simp only [s_plus, Int.ofNat_eq_natCast, hs]
    rfl
def sz0 (b : LI) : Bool := decide (b.length ≤ 1048576)
theorem h_rread : Holds Try.prog 27 (gB_Sp reW sz0) := holds_B_Sp fun b hb hp => w_rread _ rfl _ rfl _ rfl ⟨h_whole, trivial⟩ b hb (of_decide_eq_true hp)
end Go.Proofs.SX
