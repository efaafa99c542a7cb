/- The walk: the laws of bytes. Conditions: none. -/
import Derived.Test.YtmaegpgepcjcbaaNa5
import Derived.Test.YtmaegpgepcjcbaaSx3
set_option linter.all false
namespace Go.Proofs.SX
open Go Go.Proofs
set_option maxRecDepth 100000
set_option linter.unusedVariables false
set_option linter.unusedSimpArgs false
theorem eqs_self {x : LI} : stdAr.eqs x x = true := by rw [s_eqs]; simp
theorem w_lbytes (A : Ar) (hA : A = stdAr) (s1 : LI → Bool) (hs1 : s1 = sz1) (s1b : LI → Bool) (hs1b : s1b = sz1b) (s0 : LI → Bool) (hs0 : s0 = sz0) (sI : LI → Int → Bool) (hsI : sI = sz1I) (fb : LI → Int → LI) (fe : LI → Int → Int) (re : LI → LI) (sa : LI → LI → Bool) (hsa : sa = saV) (by' : LI → LI)
    (hG : allHold Try.prog [(12, g0 (.bool true)), (24, gSI_BIp A fb fe sI), (25, gSI_BIp A fb fe sI), (26, gB_Sp re s1b), (27, gB_Sp re s0), (17, gSS_T sa), (28, gS_Bp by' s1), (29, gS_Bp by' s1)]) (a b : LI) (n : Int) :
    FCall Try.prog 4 [.sli .u32 a, .sli .u8 b, .int .i64 n] (.bool true) := by
  by_cases c1 : 80 < a.length
  · (refine FCall.exec (ok_of hA hG) (fn := Try.f4) 100 [true, true, true, true, true] rfl rfl rfl (fun _ => ?_); (conv => { arg 1; cbv }); refine ⟨?_, ?_⟩; (try exact obs_nil))
    · (subst_vars; simp (disch := omega) only [obs_nil_iff, obs_cons_iff, s_ofNat, s_plus, s_len, s_rd, s_set, s_eql, s_neq, s_lss, s_leq, s_gtr, s_geq, s_not, s_and, s_beq, s_add, s_sub, s_mul, s_wrap, s_diff, s_max, s_min, s_quo, s_rem, s_quo32, s_rem32, s_quo64, s_rem64, s_zerosI, s_cat, wi, wrap_u32', wrap_u64', wrap_u8', decide_eq_true_eq, decide_eq_false_iff_not, beq_iff_eq, beq_eq_false_iff_ne, bne_iff_ne, bne_eq_false_iff_eq, Bool.not_eq_true', Bool.not_eq_false', ne_eq, nc0, nc1, nc4, nc8, Int.toNat_natCast, Int.cast_ofNat_Int, Int.ofNat_eq_natCast, and_true, true_and, s_subL, s_shr32, s_shl32, s_or32]; (repeat' apply And.intro) <;> first | trivial | omega)
    · rfl
  by_cases c2 : 300 < b.length
  · (refine FCall.exec (ok_of hA hG) (fn := Try.f4) 100 [false, false, false, false, true] rfl rfl rfl (fun _ => ?_); (conv => { arg 1; cbv }); refine ⟨?_, ?_⟩; (try exact obs_nil))
    · (subst_vars; simp (disch := omega) only [obs_nil_iff, obs_cons_iff, s_ofNat, s_plus, s_len, s_rd, s_set, s_eql, s_neq, s_lss, s_leq, s_gtr, s_geq, s_not, s_and, s_beq, s_add, s_sub, s_mul, s_wrap, s_diff, s_max, s_min, s_quo, s_rem, s_quo32, s_rem32, s_quo64, s_rem64, s_zerosI, s_cat, wi, wrap_u32', wrap_u64', wrap_u8', decide_eq_true_eq, decide_eq_false_iff_not, beq_iff_eq, beq_eq_false_iff_ne, bne_iff_ne, bne_eq_false_iff_eq, Bool.not_eq_true', Bool.not_eq_false', ne_eq, nc0, nc1, nc4, nc8, Int.toNat_natCast, Int.cast_ofNat_Int, Int.ofNat_eq_natCast, and_true, true_and, s_subL, s_shr32, s_shl32, s_or32]; (repeat' apply And.intro) <;> first | trivial | omega)
    · rfl
  · have e1 : sz1 a = true := decide_eq_true (by omega)
    have e2 : sz1b b = true := decide_eq_true (by omega)
    have e3 : sz0 b = true := decide_eq_true (by omega)
    have e4 : sz1I a n = true := decide_eq_true (by omega)
    have k := ok_of hA hG
    refine FCall.of_body k (fn := Try.f4) rfl rfl rfl rfl (fun _ => ?_)
    (refine AWP.seq (AWP.go k 100 [] ?_); (conv => { arg 1; cbv }); refine ⟨?_, ?_⟩; rotate_left; (try dsimp only [sthen, sblock]); rotate_right; (try exact obs_nil))
    (refine AWP.seq (AWP.go k 100 [false, false, false, false, false] ?_); (conv => { arg 1; cbv }); refine ⟨?_, ?_⟩; rotate_left; (try dsimp only [sthen, sblock]); rotate_right; (try exact obs_nil))
    · (subst_vars; simp (disch := omega) only [obs_nil_iff, obs_cons_iff, s_ofNat, s_plus, s_len, s_rd, s_set, s_eql, s_neq, s_lss, s_leq, s_gtr, s_geq, s_not, s_and, s_beq, s_add, s_sub, s_mul, s_wrap, s_diff, s_max, s_min, s_quo, s_rem, s_quo32, s_rem32, s_quo64, s_rem64, s_zerosI, s_cat, wi, wrap_u32', wrap_u64', wrap_u8', decide_eq_true_eq, decide_eq_false_iff_not, beq_iff_eq, beq_eq_false_iff_ne, bne_iff_ne, bne_eq_false_iff_eq, Bool.not_eq_true', Bool.not_eq_false', ne_eq, nc0, nc1, nc4, nc8, Int.toNat_natCast, Int.cast_ofNat_Int, Int.ofNat_eq_natCast, and_true, true_and, s_subL, s_shr32, s_shl32, s_or32]; (repeat' apply And.intro) <;> first | trivial | omega)
    (refine AWP.seq (AWP.go k 100 [] ?_); (conv => { arg 1; cbv }); refine ⟨?_, ?_⟩; rotate_left; (try dsimp only [sthen, sblock]); rotate_right; (try exact obs_nil))
    · subst_vars; ((simp only [s_plus, s_len, s_ofNat, nc0, nc1, nc2, nc4, s_sub_all, s_sub1, s_sub2, s_sub4, s_cat]) <;> (try simp (disch := omega) only [Int.emod_eq_of_lt, List.length_cons, List.length_nil, List.length_append, obs_nil_iff, obs_cons_iff, s_ofNat, s_plus, s_len, s_rd, s_set, s_eql, s_neq, s_lss, s_leq, s_gtr, s_geq, s_not, s_and, s_beq, s_add, s_sub, s_mul, s_wrap, s_diff, s_max, s_min, s_quo, s_rem, s_quo32, s_rem32, s_quo64, s_rem64, s_zerosI, s_cat, wi, wrap_u32', wrap_u64', wrap_u8', decide_eq_true_eq, decide_eq_false_iff_not, beq_iff_eq, beq_eq_false_iff_ne, bne_iff_ne, bne_eq_false_iff_eq, Bool.not_eq_true', Bool.not_eq_false', ne_eq, nc0, nc1, nc4, nc8, Int.toNat_natCast, Int.cast_ofNat_Int, Int.ofNat_eq_natCast, and_true, true_and, s_subL, s_shr32, s_shl32, s_or32])); omega
    (refine AWP.seq (AWP.go k 100 [] ?_); (conv => { arg 1; cbv }); refine ⟨?_, ?_⟩; rotate_left; (try dsimp only [sthen, sblock]); rotate_right; (try exact obs_nil))
    · subst_vars; simp only [obs_nil_iff, obs_cons_iff, e4, and_true]
    (refine AWP.seq (AWP.go k 100 [] ?_); (conv => { arg 1; cbv }); refine ⟨?_, ?_⟩; rotate_left; (try dsimp only [sthen, sblock]); rotate_right; (try exact obs_nil))
    · subst_vars; simp only [obs_nil_iff, obs_cons_iff, e4, and_true]
    have hz : A.sub (A.cat (A.sub [] 0 (A.plus 0 (A.ofNat 0))) b) 0 (A.plus 0 (A.plus (A.ofNat 0) (A.len b))) = b := by
      subst hA
      simp only [s_plus, s_len, s_ofNat, nc0, s_cat, s_subL]
      simp
    refine AWP.freeze 7 rfl rfl (k' := .u8) (ys := b) (by
      rw [← hA]
      exact congrArg (fun z => some (AV.sli .u8 z)) hz) ?_
    (refine AWP.seq (AWP.go k 100 (List.replicate 60 true) ?_); (conv => { arg 1; cbv }); refine ⟨?_, ?_⟩; rotate_left; (try dsimp only [sthen, sblock]); rotate_right; (try exact obs_nil))
    · subst_vars
      simp only [obs_nil_iff, obs_cons_iff, cmp_refl, eqs_self, saV_refl, e1, e2, e3, and_true]
    (refine AWP.go k 100 [] ?_; (conv => { arg 1; cbv }); refine ⟨?_, ?_⟩; rotate_left; (try dsimp only [sthen, sblock]); rotate_right; (try exact obs_nil))
    (refine ⟨fun id => by simp, ?_⟩; conv => { lhs; cbv })
    subst_vars
    exact congrArg (fun z => some (AV.bool z)) eqs_self
theorem bytesCall (a b : LI) (n : Int) : FCall Try.prog 4 [.sli .u32 a, .sli .u8 b, .int .i64 n] (.bool true) :=
  w_lbytes stdAr rfl sz1 rfl sz1b rfl sz0 rfl sz1I rfl fiB fiE reW saV rfl byV ⟨h_alive, h_fill, h_rfillN, h_read, h_rread, h_same, h_bytes, h_rbytes, trivial⟩ a b n
end Go.Proofs.SX
