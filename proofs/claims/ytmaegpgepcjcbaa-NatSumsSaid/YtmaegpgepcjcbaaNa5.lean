/- The walk: alive; the law of sums. Conditions: none. -/
import Derived.Test.YtmaegpgepcjcbaaNa4
import Derived.Test.YtmaegpgepcjcbaaSx3
set_option linter.all false
namespace Go.Proofs.SX
open Go Go.Proofs
set_option maxRecDepth 100000
set_option linter.unusedVariables false
set_option linter.unusedSimpArgs false
theorem s_sub3 (x y z : Int) : stdAr.sub [x, y, z] 0 (0 + 3) = [x, y, z] := rfl
theorem nc3 : ((3 : Nat) : Int) = 3 := rfl
theorem nc6 : ((6 : Nat) : Int) = 6 := rfl
theorem nc10 : ((10 : Nat) : Int) = 10 := rfl
theorem saV_refl {a : LI} : saV a a = true := decide_eq_true rfl
theorem al1 : diQ [0, 0, 1] [10] = frW 1844674407370955161 := by
  unfold diQ frW
  rw [if_neg (by decide)]
  congr 1
theorem al2 : diR [0, 0, 1] [10] = [6] := by
  unfold diR
  rw [if_neg (by decide), show V (4294967296 : Nat) [0, 0, 1] % V (4294967296 : Nat) [10] = 6 by decide, W, digs_pos (by decide) (by decide), show (6 : Nat) / (4294967296 : Nat) = 0 by decide, digs_zero]
  rfl
theorem al3 : diE [0, 0, 1] [10] = 0 := by unfold diE; rw [if_neg (by decide)]
theorem al4 : sbE [1] [2] = 1 := by unfold sbE; rw [if_pos (by decide)]
theorem al5 : dnP [0, 0, 1] [10] = true := by decide
theorem al6 : sz2 [1] [2] = true := by decide
theorem w_alive (A : Ar) (hA : A = stdAr) (dq dr : LI → LI → LI) (de : LI → LI → Int) (hdq : dq = diQ) (hdr : dr = diR) (hde : de = diE) (dp : LI → LI → Bool) (hdp : dp = dnP) (sw : LI → LI → LI) (hsw : sw = sbW) (se : LI → LI → Int) (hse : se = sbE) (s2 : LI → LI → Bool) (hs2 : s2 = sz2) (fr : Int → LI) (hfr : fr = frW) (sa : LI → LI → Bool) (hsa : sa = saV)
    (hG : allHold Try.prog [(30, gSS_SSIp dq dr de dp), (13, gSS_SIp sw se s2), (42, gV_S A fr), (17, gSS_T sa)]) : FCall Try.prog 12 [] (.bool true) := by
  (refine FCall.exec (ok_of hA hG) (fn := Try.f12) 100 (List.replicate 30 true) rfl rfl rfl (fun _ => ?_); (conv => { arg 1; cbv }); refine ⟨?_, ?_⟩; (try exact obs_nil))
  · subst_vars
    simp only [s_plus, s_ofNat, nc0, nc1, nc2, nc3, nc6, nc10, s_sub1, s_sub3, al1, al2, al3, al4, al5, al6, saV_refl]
    simp only [obs_nil_iff, obs_cons_iff, s_eql, and_true, true_and, Int.cast_ofNat_Int, saV_refl]
    decide
  · subst_vars
    simp only [s_plus, s_ofNat, nc0, nc1, nc2, nc3, nc6, nc10, s_sub1, s_sub3, al4]
    rfl
theorem h_alive : Holds Try.prog 12 (g0 (.bool true)) := holds_0 (w_alive _ rfl _ _ _ rfl rfl rfl _ rfl _ rfl _ rfl _ rfl _ rfl _ rfl ⟨h_divn, h_sub, h_from, h_same, trivial⟩)
theorem cmp_refl {x : Int} : stdAr.cmp .eql x x = true := by rw [s_eql]; simp
/-- Not longer than these. -/
def lP (a : LI) : Bool := decide (a.length ≤ 80)
theorem w_sums (A : Ar) (hA : A = stdAr) (s2 : LI → LI → Bool) (hs2 : s2 = sz2) (tp : LI → LI → Bool) (htp : tp = trueP2) (s1 : LI → Bool) (hs1 : s1 = sz1) (sw : LI → LI → LI) (se : LI → LI → Int) (cm : LI → LI → Int) (ad : LI → LI → LI) (sa : LI → LI → Bool) (hsa : sa = saV) (bi : LI → Int) (bt : LI → Int → Int)
    (hG : allHold Try.prog [(12, g0 (.bool true)), (13, gSS_SIp sw se s2), (14, gSS_SIp sw se s2), (15, gSS_Ip cm tp), (16, gSS_Ip cm s2), (18, gSS_Sp ad s2), (19, gSS_Sp ad s2),
      (17, gSS_T sa), (20, gS_Ip bi s1), (21, gS_Ip bi s1), (22, gSI_I A bt), (23, gSI_I A bt)]) (a b : LI) (i : Int) : FCall Try.prog 3 [.sli .u32 a, .sli .u32 b, .int .i64 i] (.bool true) := by
  by_cases c1 : 80 < a.length
  · (refine FCall.exec (ok_of hA hG) (fn := Try.f3) 100 [true, true, true, true, true] rfl rfl rfl (fun _ => ?_); (conv => { arg 1; cbv }); refine ⟨?_, ?_⟩; (try exact obs_nil))
    · (subst_vars; simp (disch := omega) only [obs_nil_iff, obs_cons_iff, s_ofNat, s_plus, s_len, s_rd, s_set, s_eql, s_neq, s_lss, s_leq, s_gtr, s_geq, s_not, s_and, s_beq, s_add, s_sub, s_mul, s_wrap, s_diff, s_max, s_min, s_quo, s_rem, s_quo32, s_rem32, s_quo64, s_rem64, s_zerosI, s_cat, wi, wrap_u32', wrap_u64', wrap_u8', decide_eq_true_eq, decide_eq_false_iff_not, beq_iff_eq, beq_eq_false_iff_ne, bne_iff_ne, bne_eq_false_iff_eq, Bool.not_eq_true', Bool.not_eq_false', ne_eq, nc0, nc1, nc4, nc8, Int.toNat_natCast, Int.cast_ofNat_Int, Int.ofNat_eq_natCast, and_true, true_and, s_subL, s_shr32, s_shl32, s_or32]; (repeat' apply And.intro) <;> first | trivial | omega)
    · rfl
  by_cases c2 : 80 < b.length
  · (refine FCall.exec (ok_of hA hG) (fn := Try.f3) 100 [false, false, false, false, true] rfl rfl rfl (fun _ => ?_); (conv => { arg 1; cbv }); refine ⟨?_, ?_⟩; (try exact obs_nil))
    · (subst_vars; simp (disch := omega) only [obs_nil_iff, obs_cons_iff, s_ofNat, s_plus, s_len, s_rd, s_set, s_eql, s_neq, s_lss, s_leq, s_gtr, s_geq, s_not, s_and, s_beq, s_add, s_sub, s_mul, s_wrap, s_diff, s_max, s_min, s_quo, s_rem, s_quo32, s_rem32, s_quo64, s_rem64, s_zerosI, s_cat, wi, wrap_u32', wrap_u64', wrap_u8', decide_eq_true_eq, decide_eq_false_iff_not, beq_iff_eq, beq_eq_false_iff_ne, bne_iff_ne, bne_eq_false_iff_eq, Bool.not_eq_true', Bool.not_eq_false', ne_eq, nc0, nc1, nc4, nc8, Int.toNat_natCast, Int.cast_ofNat_Int, Int.ofNat_eq_natCast, and_true, true_and, s_subL, s_shr32, s_shl32, s_or32]; (repeat' apply And.intro) <;> first | trivial | omega)
    · rfl
  · (refine FCall.exec (ok_of hA hG) (fn := Try.f3) 100 ([false, false, false, false, false] ++ List.replicate 60 true) rfl rfl rfl (fun _ => ?_); (conv => { arg 1; cbv }); refine ⟨?_, ?_⟩; (try exact obs_nil))
    · have e1 : sz2 a b = true := decide_eq_true (by omega)
      have e2 : sz1 a = true := decide_eq_true (by omega)
      subst_vars
      simp only [obs_nil_iff, obs_cons_iff, e1, e2, trueP2, saV_refl, cmp_refl, and_true, true_and, s_len, s_gtr, s_ofNat]
      simp
      omega
    · subst_vars
      exact congrArg AV.bool cmp_refl
theorem sumsCall (a b : LI) (i : Int) : FCall Try.prog 3 [.sli .u32 a, .sli .u32 b, .int .i64 i] (.bool true) :=
  w_sums stdAr rfl sz2 rfl trueP2 rfl sz1 rfl sbW sbE cmW adW saV rfl biV btV ⟨h_alive, h_sub, h_rsub, h_cmp, h_rcmp, h_add, h_radd, h_same, h_bits, h_rbits, h_bit, h_rbit, trivial⟩ a b i
end Go.Proofs.SX
