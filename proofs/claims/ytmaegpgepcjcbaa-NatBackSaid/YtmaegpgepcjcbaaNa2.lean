/- The walk: nat.trim. Conditions: none. -/
import Derived.Test.YtmaegpgepcjcbaaNa1
import Derived.RangeFuncBox
import Derived.RangeFuncLeaves
import Derived.WalkKit
import Derived.OwnWalkIn
import Derived.TacticsInMore
import Derived.LoopNIn
import Derived.LoopIn
set_option linter.all false
namespace Go.Proofs.SX
open Go Go.Proofs
set_option maxRecDepth 100000
set_option linter.unusedVariables false
set_option linter.unusedSimpArgs false
/-- A number's words. -/
def W (n : Nat) : LI := digs (4294967296 : Nat) n
def trW (a : LI) : LI := W (V (4294967296 : Nat) a)
theorem w_trim (A : Ar) (hA : A = stdAr) (a : LI) (ha : Nm .u32 a) : FCall Try.prog 44 [.sli .u32 a] (.sli .u32 (trW a)) := by
  have hG : allHold Try.prog [] := trivial
  have k := ok_of hA hG
  have hl := ha.2
  refine FCall.of_body k (fn := Try.f44) rfl rfl rfl rfl (fun _ => ?_)
  (refine AWP.seq (AWP.go k 100 [] ?_); (conv => { arg 1; cbv }); refine ⟨?_, ?_⟩; rotate_left; (try dsimp only [sthen, sblock]); rotate_right; (try exact obs_nil))
  (refine AWP.seq (AWP.go k 100 [] ?_); (conv => { arg 1; cbv }); refine ⟨?_, ?_⟩; rotate_left; (try dsimp only [sthen, sblock]); rotate_right; (try exact obs_nil))
  refine AWP.seq (AWP.block ?_)
  refine AWP.loopP (fun n : Int => ⟨mkF [(0, .sli .u32 a), (3, .int .i64 n)] 22 0, []⟩) (fun n => 0 ≤ n ∧ n ≤ a.length ∧ ∀ j : Nat, n ≤ j → a.getD j 0 = 0) (fun n => n.toNat) (A.len a) ?_ ?_ ?_
  · (refine ⟨?_, ?_, rfl⟩ <;> repeat' (first | exact .nil | exact .any _ | exact .gone _ | exact .same _ | exact .lit _ _ | exact .nil _ | refine .cons ?_ ?_ | exact AvLe.int_eq (by first | rfl | (simp only [Int.ofNat_eq_natCast]; omega) | omega) | exact AvLe.lit_eq (by first | rfl | (simp only [Int.ofNat_eq_natCast]; omega) | omega) | exact AvLe.osl_eq (by first | rfl | (simp only [Int.ofNat_eq_natCast]; omega) | omega) (by first | rfl | (simp only [Int.ofNat_eq_natCast]; omega) | omega | (simp; done) | (simp; omega)) | refine BlLe.row_eq ?_))
  · subst hA
    refine ⟨Int.natCast_nonneg _, Int.le_refl _, fun j hj => getD_big (Int.ofNat_le.1 hj)⟩
  rintro n ⟨h0, h1, h2⟩
  by_cases c : 0 < n
  · by_cases d : a.getD (n - 1).toNat 0 = 0
    · (refine AWP.seq (AWP.go k 100 (List.replicate 8 true) ?_); (conv => { arg 1; cbv }); refine ⟨?_, ?_⟩; rotate_left; (try dsimp only [sthen, sblock]); rotate_right; (try exact obs_nil))
      · (subst_vars; simp (disch := omega) only [obs_nil_iff, obs_cons_iff, s_ofNat, s_plus, s_len, s_rd, s_set, s_eql, s_neq, s_lss, s_leq, s_gtr, s_geq, s_not, s_and, s_beq, s_add, s_sub, s_mul, s_wrap, s_diff, s_max, s_min, s_quo, s_rem, s_quo32, s_rem32, s_quo64, s_rem64, s_zerosI, s_cat, wi, wrap_u32', wrap_u64', wrap_u8', decide_eq_true_eq, decide_eq_false_iff_not, beq_iff_eq, beq_eq_false_iff_ne, bne_iff_ne, bne_eq_false_iff_eq, Bool.not_eq_true', Bool.not_eq_false', ne_eq, nc0, nc1, nc4, nc8, Int.toNat_natCast, Int.cast_ofNat_Int, Int.ofNat_eq_natCast, and_true, true_and, s_subL, s_shr32, s_shl32, s_or32]; (repeat' apply And.intro) <;> first | trivial | omega)
      (refine AWP.go k 100 [] ?_; (conv => { arg 1; cbv }); refine ⟨?_, ?_⟩; rotate_left; (try dsimp only [sthen, sblock]); rotate_right; (try exact obs_nil))
      apply handed.mk (n - 1)
      · subst_vars; simp (disch := omega) only [obs_nil_iff, obs_cons_iff, s_ofNat, s_plus, s_len, s_rd, s_set, s_eql, s_neq, s_lss, s_leq, s_gtr, s_geq, s_not, s_and, s_beq, s_add, s_sub, s_mul, s_wrap, s_diff, s_max, s_min, s_quo, s_rem, s_quo32, s_rem32, s_quo64, s_rem64, s_zerosI, s_cat, wi, wrap_u32', wrap_u64', wrap_u8', decide_eq_true_eq, decide_eq_false_iff_not, beq_iff_eq, beq_eq_false_iff_ne, bne_iff_ne, bne_eq_false_iff_eq, Bool.not_eq_true', Bool.not_eq_false', ne_eq, nc0, nc1, nc4, nc8, Int.toNat_natCast, Int.cast_ofNat_Int, Int.ofNat_eq_natCast, and_true, true_and, s_subL, s_shr32, s_shl32, s_or32]; (refine ⟨?_, ?_, rfl⟩ <;> repeat' (first | exact .nil | exact .any _ | exact .gone _ | exact .same _ | exact .lit _ _ | exact .nil _ | refine .cons ?_ ?_ | exact AvLe.int_eq (by first | rfl | (simp only [Int.ofNat_eq_natCast]; omega) | omega) | exact AvLe.lit_eq (by first | rfl | (simp only [Int.ofNat_eq_natCast]; omega) | omega) | exact AvLe.osl_eq (by first | rfl | (simp only [Int.ofNat_eq_natCast]; omega) | omega) (by first | rfl | (simp only [Int.ofNat_eq_natCast]; omega) | omega | (simp; done) | (simp; omega)) | refine BlLe.row_eq ?_))
      · refine ⟨by omega, by omega, fun j hj => ?_⟩
        by_cases hj' : n ≤ j
        · exact h2 j hj'
        · have : j = (n - 1).toNat := by omega
          rw [this]; exact d
      · omega
    · (refine AWP.seq (AWP.go k 100 (List.replicate 7 true ++ [false]) ?_); (conv => { arg 1; cbv }); refine ⟨?_, ?_⟩; rotate_left; (try dsimp only [sthen, sblock]); rotate_right; (try exact obs_nil))
      · (subst_vars; simp (disch := omega) only [obs_nil_iff, obs_cons_iff, s_ofNat, s_plus, s_len, s_rd, s_set, s_eql, s_neq, s_lss, s_leq, s_gtr, s_geq, s_not, s_and, s_beq, s_add, s_sub, s_mul, s_wrap, s_diff, s_max, s_min, s_quo, s_rem, s_quo32, s_rem32, s_quo64, s_rem64, s_zerosI, s_cat, wi, wrap_u32', wrap_u64', wrap_u8', decide_eq_true_eq, decide_eq_false_iff_not, beq_iff_eq, beq_eq_false_iff_ne, bne_iff_ne, bne_eq_false_iff_eq, Bool.not_eq_true', Bool.not_eq_false', ne_eq, nc0, nc1, nc4, nc8, Int.toNat_natCast, Int.cast_ofNat_Int, Int.ofNat_eq_natCast, and_true, true_and, s_subL, s_shr32, s_shl32, s_or32]; (repeat' apply And.intro) <;> first | trivial | omega)
      (dsimp only [handed, handedR, sblock, sthen]; rw [if_pos rfl])
      (refine AWP.seq (AWP.go k 100 [] ?_); (conv => { arg 1; cbv }); refine ⟨?_, ?_⟩; rotate_left; (try dsimp only [sthen, sblock]); rotate_right; (try exact obs_nil))
      · (subst_vars; simp (disch := omega) only [obs_nil_iff, obs_cons_iff, s_ofNat, s_plus, s_len, s_rd, s_set, s_eql, s_neq, s_lss, s_leq, s_gtr, s_geq, s_not, s_and, s_beq, s_add, s_sub, s_mul, s_wrap, s_diff, s_max, s_min, s_quo, s_rem, s_quo32, s_rem32, s_quo64, s_rem64, s_zerosI, s_cat, wi, wrap_u32', wrap_u64', wrap_u8', decide_eq_true_eq, decide_eq_false_iff_not, beq_iff_eq, beq_eq_false_iff_ne, bne_iff_ne, bne_eq_false_iff_eq, Bool.not_eq_true', Bool.not_eq_false', ne_eq, nc0, nc1, nc4, nc8, Int.toNat_natCast, Int.cast_ofNat_Int, Int.ofNat_eq_natCast, and_true, true_and, s_subL, s_shr32, s_shl32, s_or32]; (repeat' apply And.intro) <;> first | trivial | omega)
      (refine AWP.go k 100 [] ?_; (conv => { arg 1; cbv }); refine ⟨?_, ?_⟩; rotate_left; (try dsimp only [sthen, sblock]); rotate_right; (try exact obs_nil))
      (refine ⟨fun id => by simp, ?_⟩; conv => { lhs; cbv })
      subst_vars
      rw [trW, W, ← trim_eq (by omega) (nm32 ha) (n := n.toNat) (by omega) (fun j hj => h2 j (by omega)) (.inr (by rw [show n.toNat - 1 = (n - 1).toNat by omega]; exact d))]
      simp (disch := omega) only [obs_nil_iff, obs_cons_iff, s_ofNat, s_plus, s_len, s_rd, s_set, s_eql, s_neq, s_lss, s_leq, s_gtr, s_geq, s_not, s_and, s_beq, s_add, s_sub, s_mul, s_wrap, s_diff, s_max, s_min, s_quo, s_rem, s_quo32, s_rem32, s_quo64, s_rem64, s_zerosI, s_cat, wi, wrap_u32', wrap_u64', wrap_u8', decide_eq_true_eq, decide_eq_false_iff_not, beq_iff_eq, beq_eq_false_iff_ne, bne_iff_ne, bne_eq_false_iff_eq, Bool.not_eq_true', Bool.not_eq_false', ne_eq, nc0, nc1, nc4, nc8, Int.toNat_natCast, Int.cast_ofNat_Int, Int.ofNat_eq_natCast, and_true, true_and, s_subL, s_shr32, s_shl32, s_or32]
      simp [s_subL]
  · (refine AWP.seq (AWP.go k 100 (List.replicate 8 false) ?_); (conv => { arg 1; cbv }); refine ⟨?_, ?_⟩; rotate_left; (try dsimp only [sthen, sblock]); rotate_right; (try exact obs_nil))
    · (subst_vars; simp (disch := omega) only [obs_nil_iff, obs_cons_iff, s_ofNat, s_plus, s_len, s_rd, s_set, s_eql, s_neq, s_lss, s_leq, s_gtr, s_geq, s_not, s_and, s_beq, s_add, s_sub, s_mul, s_wrap, s_diff, s_max, s_min, s_quo, s_rem, s_quo32, s_rem32, s_quo64, s_rem64, s_zerosI, s_cat, wi, wrap_u32', wrap_u64', wrap_u8', decide_eq_true_eq, decide_eq_false_iff_not, beq_iff_eq, beq_eq_false_iff_ne, bne_iff_ne, bne_eq_false_iff_eq, Bool.not_eq_true', Bool.not_eq_false', ne_eq, nc0, nc1, nc4, nc8, Int.toNat_natCast, Int.cast_ofNat_Int, Int.ofNat_eq_natCast, and_true, true_and, s_subL, s_shr32, s_shl32, s_or32]; (repeat' apply And.intro) <;> first | trivial | omega)
    (dsimp only [handed, handedR, sblock, sthen]; rw [if_pos rfl])
    (refine AWP.seq (AWP.go k 100 [] ?_); (conv => { arg 1; cbv }); refine ⟨?_, ?_⟩; rotate_left; (try dsimp only [sthen, sblock]); rotate_right; (try exact obs_nil))
    · (subst_vars; simp (disch := omega) only [obs_nil_iff, obs_cons_iff, s_ofNat, s_plus, s_len, s_rd, s_set, s_eql, s_neq, s_lss, s_leq, s_gtr, s_geq, s_not, s_and, s_beq, s_add, s_sub, s_mul, s_wrap, s_diff, s_max, s_min, s_quo, s_rem, s_quo32, s_rem32, s_quo64, s_rem64, s_zerosI, s_cat, wi, wrap_u32', wrap_u64', wrap_u8', decide_eq_true_eq, decide_eq_false_iff_not, beq_iff_eq, beq_eq_false_iff_ne, bne_iff_ne, bne_eq_false_iff_eq, Bool.not_eq_true', Bool.not_eq_false', ne_eq, nc0, nc1, nc4, nc8, Int.toNat_natCast, Int.cast_ofNat_Int, Int.ofNat_eq_natCast, and_true, true_and, s_subL, s_shr32, s_shl32, s_or32]; (repeat' apply And.intro) <;> first | trivial | omega)
    (refine AWP.go k 100 [] ?_; (conv => { arg 1; cbv }); refine ⟨?_, ?_⟩; rotate_left; (try dsimp only [sthen, sblock]); rotate_right; (try exact obs_nil))
    (refine ⟨fun id => by simp, ?_⟩; conv => { lhs; cbv })
    subst_vars
    have : n = 0 := by omega
    subst this
    rw [trW, W, ← trim_eq (by omega) (nm32 ha) (n := 0) (by omega) (fun j hj => h2 j (by omega)) (.inl rfl)]
    simp [s_subL]
theorem h_trim : Holds Try.prog 44 (gS_S trW) := holds_S_S fun a ha => w_trim _ rfl a ha
end Go.Proofs.SX

namespace Go.Proofs.SX
open Go Go.Proofs
set_option maxRecDepth 100000
set_option linter.unusedVariables false
set_option linter.unusedSimpArgs false
def rdW (a : LI) (i : Int) : Int := a.getD i.toNat 0
def nnP (a : LI) (i : Int) : Bool := decide (0 ≤ i)
theorem w_word (A : Ar) (hA : A = stdAr) (a : LI) (i : Int) (ha : Nm .u32 a) (hi : 0 ≤ i) : FCall Try.prog 50 [.sli .u32 a, .int .i64 i] (.int .u32 (rdW a i)) := by
  have hG : allHold Try.prog [] := trivial
  by_cases c : i < a.length
  · (refine FCall.exec (ok_of hA hG) (fn := Try.f50) 100 [true] rfl rfl rfl (fun _ => ?_); (conv => { arg 1; cbv }); refine ⟨?_, ?_⟩; (try exact obs_nil))
    · (subst_vars; simp (disch := omega) only [obs_nil_iff, obs_cons_iff, s_ofNat, s_plus, s_len, s_rd, s_set, s_eql, s_neq, s_lss, s_leq, s_gtr, s_geq, s_not, s_and, s_beq, s_add, s_sub, s_mul, s_wrap, s_diff, s_max, s_min, s_quo, s_rem, s_quo32, s_rem32, s_quo64, s_rem64, s_zerosI, s_cat, wi, wrap_u32', wrap_u64', wrap_u8', decide_eq_true_eq, decide_eq_false_iff_not, beq_iff_eq, beq_eq_false_iff_ne, bne_iff_ne, bne_eq_false_iff_eq, Bool.not_eq_true', Bool.not_eq_false', ne_eq, nc0, nc1, nc4, nc8, Int.toNat_natCast, Int.cast_ofNat_Int, Int.ofNat_eq_natCast, and_true, true_and, s_subL, s_shr32, s_shl32, s_or32]; (repeat' apply And.intro) <;> first | trivial | omega)
    · subst_vars; rfl
  · (refine FCall.exec (ok_of hA hG) (fn := Try.f50) 100 [false] rfl rfl rfl (fun _ => ?_); (conv => { arg 1; cbv }); refine ⟨?_, ?_⟩; (try exact obs_nil))
    · (subst_vars; simp (disch := omega) only [obs_nil_iff, obs_cons_iff, s_ofNat, s_plus, s_len, s_rd, s_set, s_eql, s_neq, s_lss, s_leq, s_gtr, s_geq, s_not, s_and, s_beq, s_add, s_sub, s_mul, s_wrap, s_diff, s_max, s_min, s_quo, s_rem, s_quo32, s_rem32, s_quo64, s_rem64, s_zerosI, s_cat, wi, wrap_u32', wrap_u64', wrap_u8', decide_eq_true_eq, decide_eq_false_iff_not, beq_iff_eq, beq_eq_false_iff_ne, bne_iff_ne, bne_eq_false_iff_eq, Bool.not_eq_true', Bool.not_eq_false', ne_eq, nc0, nc1, nc4, nc8, Int.toNat_natCast, Int.cast_ofNat_Int, Int.ofNat_eq_natCast, and_true, true_and, s_subL, s_shr32, s_shl32, s_or32]; (repeat' apply And.intro) <;> first | trivial | omega)
    · rw [rdW, getD_big (by omega)]; subst_vars; rfl
theorem h_word : Holds Try.prog 50 (gSI_Up stdAr rdW nnP) := holds_SI_Up fun a i ha hi hp => w_word _ rfl a i ha (of_decide_eq_true hp)
theorem w_digit (A : Ar) (hA : A = stdAr) (a : LI) (i : Int) (ha : Nm .u64 a) (hi : 0 ≤ i) : FCall Try.prog 51 [.sli .u64 a, .int .i64 i] (.int .u64 (rdW a i)) := by
  have hG : allHold Try.prog [] := trivial
  by_cases c : i < a.length
  · (refine FCall.exec (ok_of hA hG) (fn := Try.f51) 100 [true] rfl rfl rfl (fun _ => ?_); (conv => { arg 1; cbv }); refine ⟨?_, ?_⟩; (try exact obs_nil))
    · (subst_vars; simp (disch := omega) only [obs_nil_iff, obs_cons_iff, s_ofNat, s_plus, s_len, s_rd, s_set, s_eql, s_neq, s_lss, s_leq, s_gtr, s_geq, s_not, s_and, s_beq, s_add, s_sub, s_mul, s_wrap, s_diff, s_max, s_min, s_quo, s_rem, s_quo32, s_rem32, s_quo64, s_rem64, s_zerosI, s_cat, wi, wrap_u32', wrap_u64', wrap_u8', decide_eq_true_eq, decide_eq_false_iff_not, beq_iff_eq, beq_eq_false_iff_ne, bne_iff_ne, bne_eq_false_iff_eq, Bool.not_eq_true', Bool.not_eq_false', ne_eq, nc0, nc1, nc4, nc8, Int.toNat_natCast, Int.cast_ofNat_Int, Int.ofNat_eq_natCast, and_true, true_and, s_subL, s_shr32, s_shl32, s_or32]; (repeat' apply And.intro) <;> first | trivial | omega)
    · subst_vars; rfl
  · (refine FCall.exec (ok_of hA hG) (fn := Try.f51) 100 [false] rfl rfl rfl (fun _ => ?_); (conv => { arg 1; cbv }); refine ⟨?_, ?_⟩; (try exact obs_nil))
    · (subst_vars; simp (disch := omega) only [obs_nil_iff, obs_cons_iff, s_ofNat, s_plus, s_len, s_rd, s_set, s_eql, s_neq, s_lss, s_leq, s_gtr, s_geq, s_not, s_and, s_beq, s_add, s_sub, s_mul, s_wrap, s_diff, s_max, s_min, s_quo, s_rem, s_quo32, s_rem32, s_quo64, s_rem64, s_zerosI, s_cat, wi, wrap_u32', wrap_u64', wrap_u8', decide_eq_true_eq, decide_eq_false_iff_not, beq_iff_eq, beq_eq_false_iff_ne, bne_iff_ne, bne_eq_false_iff_eq, Bool.not_eq_true', Bool.not_eq_false', ne_eq, nc0, nc1, nc4, nc8, Int.toNat_natCast, Int.cast_ofNat_Int, Int.ofNat_eq_natCast, and_true, true_and, s_subL, s_shr32, s_shl32, s_or32]; (repeat' apply And.intro) <;> first | trivial | omega)
    · rw [rdW, getD_big (by omega)]; subst_vars; rfl
theorem h_digit : Holds Try.prog 51 (gDI_Vp stdAr rdW nnP) := holds_DI_Vp fun a i ha hi hp => w_digit _ rfl a i ha (of_decide_eq_true hp)

def frW (n : Int) : LI := W n.toNat
theorem w_from (A : Ar) (hA : A = stdAr) (tr : LI → LI) (htr : tr = trW) (hG : allHold Try.prog [(44, gS_S tr)]) (n : Int) (hn : Rg .u64 n) : FCall Try.prog 42 [.int .u64 n] (.sli .u32 (frW n)) := by
  have hn := rg64.1 hn
  (refine FCall.exec (ok_of hA hG) (fn := Try.f42) 100 [] rfl rfl rfl (fun _ => ?_); (conv => { arg 1; cbv }); refine ⟨?_, ?_⟩; (try exact obs_nil))
  · (subst_vars; simp (disch := omega) only [obs_nil_iff, obs_cons_iff, s_ofNat, s_plus, s_len, s_rd, s_set, s_eql, s_neq, s_lss, s_leq, s_gtr, s_geq, s_not, s_and, s_beq, s_add, s_sub, s_mul, s_wrap, s_diff, s_max, s_min, s_quo, s_rem, s_quo32, s_rem32, s_quo64, s_rem64, s_zerosI, s_cat, wi, wrap_u32', wrap_u64', wrap_u8', decide_eq_true_eq, decide_eq_false_iff_not, beq_iff_eq, beq_eq_false_iff_ne, bne_iff_ne, bne_eq_false_iff_eq, Bool.not_eq_true', Bool.not_eq_false', ne_eq, nc0, nc1, nc4, nc8, Int.toNat_natCast, Int.cast_ofNat_Int, Int.ofNat_eq_natCast, and_true, true_and, s_subL, s_shr32, s_shl32, s_or32]; (repeat' apply And.intro) <;> first | trivial | omega)
  · subst_vars
    simp (disch := omega) only [obs_nil_iff, obs_cons_iff, s_ofNat, s_plus, s_len, s_rd, s_set, s_eql, s_neq, s_lss, s_leq, s_gtr, s_geq, s_not, s_and, s_beq, s_add, s_sub, s_mul, s_wrap, s_diff, s_max, s_min, s_quo, s_rem, s_quo32, s_rem32, s_quo64, s_rem64, s_zerosI, s_cat, wi, wrap_u32', wrap_u64', wrap_u8', decide_eq_true_eq, decide_eq_false_iff_not, beq_iff_eq, beq_eq_false_iff_ne, bne_iff_ne, bne_eq_false_iff_eq, Bool.not_eq_true', Bool.not_eq_false', ne_eq, nc0, nc1, nc4, nc8, Int.toNat_natCast, Int.cast_ofNat_Int, Int.ofNat_eq_natCast, and_true, true_and, s_subL, s_shr32, s_shl32, s_or32]
    congr 2
    show W (V (4294967296 : Nat) _) = W _
    congr 1
    show V (4294967296 : Nat) [n % 4294967296, n / 4294967296 % 4294967296] = n.toNat
    rw [V_cons, V_cons, V_nil]
    omega
theorem h_from : Holds Try.prog 42 (gV_S stdAr frW) := holds_V_S fun n hn => w_from _ rfl _ rfl ⟨h_trim, trivial⟩ n hn

def trD (a : LI) : LI := digs (18446744073709551616 : Nat) (V (18446744073709551616 : Nat) a)
theorem has_top (a : LI) : ∃ n, n ≤ a.length ∧ (∀ j, n ≤ j → a.getD j 0 = 0) ∧ (n = 0 ∨ a.getD (n - 1) 0 ≠ 0) := by
  have : ∀ m, m ≤ a.length → (∀ j, m ≤ j → a.getD j 0 = 0) → ∃ n, n ≤ a.length ∧ (∀ j, n ≤ j → a.getD j 0 = 0) ∧ (n = 0 ∨ a.getD (n - 1) 0 ≠ 0) := by
    intro m
    induction m with
    | zero => intro _ h; exact ⟨0, Nat.zero_le _, h, .inl rfl⟩
    | succ m ih =>
      intro hm h
      by_cases c : a.getD m 0 = 0
      · exact ih (by omega) fun j hj => by
          by_cases e : j = m
          · rw [e]; exact c
          · exact h j (by omega)
      · exact ⟨m + 1, hm, h, .inr c⟩
  exact this a.length (Nat.le_refl _) fun j hj => getD_big hj
/-- The noughts at the end do not hang on the base. -/
theorem trim_base {b c : Nat} (hb : 2 ≤ b) (hc : 2 ≤ c) {a : LI} (h1 : Dg b a) (h2 : Dg c a) : digs b (V b a) = digs c (V c a) := by
  obtain ⟨n, h3, h4, h5⟩ := has_top a
  rw [← trim_eq hb h1 h3 h4 h5, ← trim_eq hc h2 h3 h4 h5]
theorem trD_16 {a : LI} (h : Dg (65536 : Nat) a) : trD a = digs (65536 : Nat) (V (65536 : Nat) a) := trim_base (by decide) (by decide) (fun i => ⟨(h i).1, by have := (h i).2; omega⟩) h
theorem w_rtrim (A : Ar) (hA : A = stdAr) (a : LI) (ha : Nm .u64 a) : FCall Try.prog 69 [.sli .u64 a] (.sli .u64 (trD a)) := by
  have hG : allHold Try.prog [] := trivial
  have k := ok_of hA hG
  have hl := ha.2
  refine FCall.of_body k (fn := Try.f69) rfl rfl rfl rfl (fun _ => ?_)
  (refine AWP.seq (AWP.go k 100 [] ?_); (conv => { arg 1; cbv }); refine ⟨?_, ?_⟩; rotate_left; (try dsimp only [sthen, sblock]); rotate_right; (try exact obs_nil))
  (refine AWP.seq (AWP.go k 100 [] ?_); (conv => { arg 1; cbv }); refine ⟨?_, ?_⟩; rotate_left; (try dsimp only [sthen, sblock]); rotate_right; (try exact obs_nil))
  refine AWP.seq (AWP.block ?_)
  refine AWP.loopP (fun n : Int => ⟨mkF [(0, .sli .u64 a), (3, .int .i64 n)] 21 0, []⟩) (fun n => 0 ≤ n ∧ n ≤ a.length ∧ ∀ j : Nat, n ≤ j → a.getD j 0 = 0) (fun n => n.toNat) (A.len a) ?_ ?_ ?_
  · (refine ⟨?_, ?_, rfl⟩ <;> repeat' (first | exact .nil | exact .any _ | exact .gone _ | exact .same _ | exact .lit _ _ | exact .nil _ | refine .cons ?_ ?_ | exact AvLe.int_eq (by first | rfl | (simp only [Int.ofNat_eq_natCast]; omega) | omega) | exact AvLe.lit_eq (by first | rfl | (simp only [Int.ofNat_eq_natCast]; omega) | omega) | exact AvLe.osl_eq (by first | rfl | (simp only [Int.ofNat_eq_natCast]; omega) | omega) (by first | rfl | (simp only [Int.ofNat_eq_natCast]; omega) | omega | (simp; done) | (simp; omega)) | refine BlLe.row_eq ?_))
  · subst hA
    refine ⟨Int.natCast_nonneg _, Int.le_refl _, fun j hj => getD_big (Int.ofNat_le.1 hj)⟩
  rintro n ⟨h0, h1, h2⟩
  by_cases c : 0 < n
  · by_cases d : a.getD (n - 1).toNat 0 = 0
    · (refine AWP.seq (AWP.go k 100 (List.replicate 8 true) ?_); (conv => { arg 1; cbv }); refine ⟨?_, ?_⟩; rotate_left; (try dsimp only [sthen, sblock]); rotate_right; (try exact obs_nil))
      · (subst_vars; simp (disch := omega) only [obs_nil_iff, obs_cons_iff, s_ofNat, s_plus, s_len, s_rd, s_set, s_eql, s_neq, s_lss, s_leq, s_gtr, s_geq, s_not, s_and, s_beq, s_add, s_sub, s_mul, s_wrap, s_diff, s_max, s_min, s_quo, s_rem, s_quo32, s_rem32, s_quo64, s_rem64, s_zerosI, s_cat, wi, wrap_u32', wrap_u64', wrap_u8', decide_eq_true_eq, decide_eq_false_iff_not, beq_iff_eq, beq_eq_false_iff_ne, bne_iff_ne, bne_eq_false_iff_eq, Bool.not_eq_true', Bool.not_eq_false', ne_eq, nc0, nc1, nc4, nc8, Int.toNat_natCast, Int.cast_ofNat_Int, Int.ofNat_eq_natCast, and_true, true_and, s_subL, s_shr32, s_shl32, s_or32]; (repeat' apply And.intro) <;> first | trivial | omega)
      (refine AWP.go k 100 [] ?_; (conv => { arg 1; cbv }); refine ⟨?_, ?_⟩; rotate_left; (try dsimp only [sthen, sblock]); rotate_right; (try exact obs_nil))
      apply handed.mk (n - 1)
      · subst_vars; simp (disch := omega) only [obs_nil_iff, obs_cons_iff, s_ofNat, s_plus, s_len, s_rd, s_set, s_eql, s_neq, s_lss, s_leq, s_gtr, s_geq, s_not, s_and, s_beq, s_add, s_sub, s_mul, s_wrap, s_diff, s_max, s_min, s_quo, s_rem, s_quo32, s_rem32, s_quo64, s_rem64, s_zerosI, s_cat, wi, wrap_u32', wrap_u64', wrap_u8', decide_eq_true_eq, decide_eq_false_iff_not, beq_iff_eq, beq_eq_false_iff_ne, bne_iff_ne, bne_eq_false_iff_eq, Bool.not_eq_true', Bool.not_eq_false', ne_eq, nc0, nc1, nc4, nc8, Int.toNat_natCast, Int.cast_ofNat_Int, Int.ofNat_eq_natCast, and_true, true_and, s_subL, s_shr32, s_shl32, s_or32]; (refine ⟨?_, ?_, rfl⟩ <;> repeat' (first | exact .nil | exact .any _ | exact .gone _ | exact .same _ | exact .lit _ _ | exact .nil _ | refine .cons ?_ ?_ | exact AvLe.int_eq (by first | rfl | (simp only [Int.ofNat_eq_natCast]; omega) | omega) | exact AvLe.lit_eq (by first | rfl | (simp only [Int.ofNat_eq_natCast]; omega) | omega) | exact AvLe.osl_eq (by first | rfl | (simp only [Int.ofNat_eq_natCast]; omega) | omega) (by first | rfl | (simp only [Int.ofNat_eq_natCast]; omega) | omega | (simp; done) | (simp; omega)) | refine BlLe.row_eq ?_))
      · refine ⟨by omega, by omega, fun j hj => ?_⟩
        by_cases hj' : n ≤ j
        · exact h2 j hj'
        · have : j = (n - 1).toNat := by omega
          rw [this]; exact d
      · omega
    · (refine AWP.seq (AWP.go k 100 (List.replicate 7 true ++ [false]) ?_); (conv => { arg 1; cbv }); refine ⟨?_, ?_⟩; rotate_left; (try dsimp only [sthen, sblock]); rotate_right; (try exact obs_nil))
      · (subst_vars; simp (disch := omega) only [obs_nil_iff, obs_cons_iff, s_ofNat, s_plus, s_len, s_rd, s_set, s_eql, s_neq, s_lss, s_leq, s_gtr, s_geq, s_not, s_and, s_beq, s_add, s_sub, s_mul, s_wrap, s_diff, s_max, s_min, s_quo, s_rem, s_quo32, s_rem32, s_quo64, s_rem64, s_zerosI, s_cat, wi, wrap_u32', wrap_u64', wrap_u8', decide_eq_true_eq, decide_eq_false_iff_not, beq_iff_eq, beq_eq_false_iff_ne, bne_iff_ne, bne_eq_false_iff_eq, Bool.not_eq_true', Bool.not_eq_false', ne_eq, nc0, nc1, nc4, nc8, Int.toNat_natCast, Int.cast_ofNat_Int, Int.ofNat_eq_natCast, and_true, true_and, s_subL, s_shr32, s_shl32, s_or32]; (repeat' apply And.intro) <;> first | trivial | omega)
      (dsimp only [handed, handedR, sblock, sthen]; rw [if_pos rfl])
      (refine AWP.seq (AWP.go k 100 [] ?_); (conv => { arg 1; cbv }); refine ⟨?_, ?_⟩; rotate_left; (try dsimp only [sthen, sblock]); rotate_right; (try exact obs_nil))
      · (subst_vars; simp (disch := omega) only [obs_nil_iff, obs_cons_iff, s_ofNat, s_plus, s_len, s_rd, s_set, s_eql, s_neq, s_lss, s_leq, s_gtr, s_geq, s_not, s_and, s_beq, s_add, s_sub, s_mul, s_wrap, s_diff, s_max, s_min, s_quo, s_rem, s_quo32, s_rem32, s_quo64, s_rem64, s_zerosI, s_cat, wi, wrap_u32', wrap_u64', wrap_u8', decide_eq_true_eq, decide_eq_false_iff_not, beq_iff_eq, beq_eq_false_iff_ne, bne_iff_ne, bne_eq_false_iff_eq, Bool.not_eq_true', Bool.not_eq_false', ne_eq, nc0, nc1, nc4, nc8, Int.toNat_natCast, Int.cast_ofNat_Int, Int.ofNat_eq_natCast, and_true, true_and, s_subL, s_shr32, s_shl32, s_or32]; (repeat' apply And.intro) <;> first | trivial | omega)
      (refine AWP.go k 100 [] ?_; (conv => { arg 1; cbv }); refine ⟨?_, ?_⟩; rotate_left; (try dsimp only [sthen, sblock]); rotate_right; (try exact obs_nil))
      (refine ⟨fun id => by simp, ?_⟩; conv => { lhs; cbv })
      subst_vars
      rw [trD, ← trim_eq (by omega) (nm64 ha) (n := n.toNat) (by omega) (fun j hj => h2 j (by omega)) (.inr (by rw [show n.toNat - 1 = (n - 1).toNat by omega]; exact d))]
      simp (disch := omega) only [obs_nil_iff, obs_cons_iff, s_ofNat, s_plus, s_len, s_rd, s_set, s_eql, s_neq, s_lss, s_leq, s_gtr, s_geq, s_not, s_and, s_beq, s_add, s_sub, s_mul, s_wrap, s_diff, s_max, s_min, s_quo, s_rem, s_quo32, s_rem32, s_quo64, s_rem64, s_zerosI, s_cat, wi, wrap_u32', wrap_u64', wrap_u8', decide_eq_true_eq, decide_eq_false_iff_not, beq_iff_eq, beq_eq_false_iff_ne, bne_iff_ne, bne_eq_false_iff_eq, Bool.not_eq_true', Bool.not_eq_false', ne_eq, nc0, nc1, nc4, nc8, Int.toNat_natCast, Int.cast_ofNat_Int, Int.ofNat_eq_natCast, and_true, true_and, s_subL, s_shr32, s_shl32, s_or32]
      simp [s_subL]
  · (refine AWP.seq (AWP.go k 100 (List.replicate 8 false) ?_); (conv => { arg 1; cbv }); refine ⟨?_, ?_⟩; rotate_left; (try dsimp only [sthen, sblock]); rotate_right; (try exact obs_nil))
    · (subst_vars; simp (disch := omega) only [obs_nil_iff, obs_cons_iff, s_ofNat, s_plus, s_len, s_rd, s_set, s_eql, s_neq, s_lss, s_leq, s_gtr, s_geq, s_not, s_and, s_beq, s_add, s_sub, s_mul, s_wrap, s_diff, s_max, s_min, s_quo, s_rem, s_quo32, s_rem32, s_quo64, s_rem64, s_zerosI, s_cat, wi, wrap_u32', wrap_u64', wrap_u8', decide_eq_true_eq, decide_eq_false_iff_not, beq_iff_eq, beq_eq_false_iff_ne, bne_iff_ne, bne_eq_false_iff_eq, Bool.not_eq_true', Bool.not_eq_false', ne_eq, nc0, nc1, nc4, nc8, Int.toNat_natCast, Int.cast_ofNat_Int, Int.ofNat_eq_natCast, and_true, true_and, s_subL, s_shr32, s_shl32, s_or32]; (repeat' apply And.intro) <;> first | trivial | omega)
    (dsimp only [handed, handedR, sblock, sthen]; rw [if_pos rfl])
    (refine AWP.seq (AWP.go k 100 [] ?_); (conv => { arg 1; cbv }); refine ⟨?_, ?_⟩; rotate_left; (try dsimp only [sthen, sblock]); rotate_right; (try exact obs_nil))
    · (subst_vars; simp (disch := omega) only [obs_nil_iff, obs_cons_iff, s_ofNat, s_plus, s_len, s_rd, s_set, s_eql, s_neq, s_lss, s_leq, s_gtr, s_geq, s_not, s_and, s_beq, s_add, s_sub, s_mul, s_wrap, s_diff, s_max, s_min, s_quo, s_rem, s_quo32, s_rem32, s_quo64, s_rem64, s_zerosI, s_cat, wi, wrap_u32', wrap_u64', wrap_u8', decide_eq_true_eq, decide_eq_false_iff_not, beq_iff_eq, beq_eq_false_iff_ne, bne_iff_ne, bne_eq_false_iff_eq, Bool.not_eq_true', Bool.not_eq_false', ne_eq, nc0, nc1, nc4, nc8, Int.toNat_natCast, Int.cast_ofNat_Int, Int.ofNat_eq_natCast, and_true, true_and, s_subL, s_shr32, s_shl32, s_or32]; (repeat' apply And.intro) <;> first | trivial | omega)
    (refine AWP.go k 100 [] ?_; (conv => { arg 1; cbv }); refine ⟨?_, ?_⟩; rotate_left; (try dsimp only [sthen, sblock]); rotate_right; (try exact obs_nil))
    (refine ⟨fun id => by simp, ?_⟩; conv => { lhs; cbv })
    subst_vars
    have : n = 0 := by omega
    subst this
    rw [trD, ← trim_eq (by omega) (nm64 ha) (n := 0) (by omega) (fun j hj => h2 j (by omega)) (.inl rfl)]
    simp [s_subL]
theorem h_rtrim : Holds Try.prog 69 (gD_D trD) := holds_D_D fun a ha => w_rtrim _ rfl a ha
end Go.Proofs.SX

namespace Go.Proofs.SX
open Go Go.Proofs
set_option maxRecDepth 100000
set_option linter.unusedVariables false
set_option linter.unusedSimpArgs false
/-- Not longer than these. -/
def sz1 (a : LI) : Bool := decide (a.length ≤ 1048576)
def sz2 (a b : LI) : Bool := decide (a.length ≤ 1048576 ∧ b.length ≤ 1048576)
def adW (a b : LI) : LI := W (V (4294967296 : Nat) a + V (4294967296 : Nat) b)
theorem add_step {X Y Z c x y P : Nat} (h : X + c * P = Y + Z) : X + ((c + (x + y)) % 4294967296) * P + ((c + (x + y)) / 4294967296) * (P * 4294967296) = (Y + x * P) + (Z + y * P) := by
  have e := Nat.div_add_mod (c + (x + y)) 4294967296
  generalize (c + (x + y)) / 4294967296 = q at *
  generalize (c + (x + y)) % 4294967296 = r at *
  have e2 : (4294967296 * q + r) * P = c * P + x * P + y * P := by rw [e]; simp only [Nat.add_mul]; omega
  rw [Nat.add_mul, Nat.mul_comm 4294967296 q, Nat.mul_assoc, Nat.mul_comm 4294967296 P] at e2
  omega
theorem w_add (A : Ar) (hA : A = stdAr) (tr : LI → LI) (htr : tr = trW) (wd : LI → Int → Int) (hwd : wd = rdW) (np : LI → Int → Bool) (hnp : np = nnP) (hG : allHold Try.prog [(44, gS_S tr), (50, gSI_Up A wd np)])
    (a b : LI) (ha : Nm .u32 a) (hb : Nm .u32 b) (la : a.length ≤ 1048576) (lb : b.length ≤ 1048576) : FCall Try.prog 18 [.sli .u32 a, .sli .u32 b] (.sli .u32 (adW a b)) := by
  have k := ok_of hA hG
  have da := nm32 ha
  have db := nm32 hb
  refine FCall.of_body k (fn := Try.f18) rfl rfl rfl rfl (fun _ => ?_)
  (refine AWP.seq (AWP.go k 100 [] ?_); (conv => { arg 1; cbv }); refine ⟨?_, ?_⟩; rotate_left; (try dsimp only [sthen, sblock]); rotate_right; (try exact obs_nil))
  (refine AWP.seq (AWP.go k 100 [] ?_); (conv => { arg 1; cbv }); refine ⟨?_, ?_⟩; rotate_left; (try dsimp only [sthen, sblock]); rotate_right; (try exact obs_nil))
  · subst_vars; simp (disch := omega) only [obs_nil_iff, obs_cons_iff, s_ofNat, s_plus, s_len, s_rd, s_set, s_eql, s_neq, s_lss, s_leq, s_gtr, s_geq, s_not, s_and, s_beq, s_add, s_sub, s_mul, s_wrap, s_diff, s_max, s_min, s_quo, s_rem, s_quo32, s_rem32, s_quo64, s_rem64, s_zerosI, s_cat, wi, wrap_u32', wrap_u64', wrap_u8', decide_eq_true_eq, decide_eq_false_iff_not, beq_iff_eq, beq_eq_false_iff_ne, bne_iff_ne, bne_eq_false_iff_eq, Bool.not_eq_true', Bool.not_eq_false', ne_eq, nc0, nc1, nc4, nc8, Int.toNat_natCast, Int.cast_ofNat_Int, Int.ofNat_eq_natCast, and_true, true_and, s_subL, s_shr32, s_shl32, s_or32]; split <;> omega
  (refine AWP.seq (AWP.go k 100 [] ?_); (conv => { arg 1; cbv }); refine ⟨?_, ?_⟩; rotate_left; (try dsimp only [sthen, sblock]); rotate_right; (try exact obs_nil))
  refine AWP.seq ?_
  (refine AWP.seq (AWP.go k 100 [] ?_); (conv => { arg 1; cbv }); refine ⟨?_, ?_⟩; rotate_left; (try dsimp only [sthen, sblock]); rotate_right; (try exact obs_nil))
  obtain ⟨N, hN, hNa, hNb, hNm⟩ : ∃ N : Nat, (if (b.length : Int) > a.length then (b.length : Int) else a.length) + 1 = (N : Int) ∧ a.length < N ∧ b.length < N ∧ N ≤ 1048577 := ⟨max a.length b.length + 1, by omega⟩
  refine AWP.block ?_
  refine AWP.loopP (fun x : Nat × Nat × LI => ⟨mkF [(0, .sli .u32 a), (1, .sli .u32 b), (5, .osl 0 0 N), (6, .int .u64 x.2.1), (16, .int .i64 N), (17, .int .i64 x.1)] 41 0, [.row .u32 x.2.2]⟩)
    (fun x => x.1 ≤ N ∧ x.2.1 ≤ 1 ∧ x.2.2.length = N ∧ Dg (4294967296 : Nat) x.2.2 ∧ pre (4294967296 : Nat) x.2.2 x.1 + x.2.1 * (4294967296 : Nat) ^ x.1 = pre (4294967296 : Nat) a x.1 + pre (4294967296 : Nat) b x.1) (fun x => N - x.1) (0, 0, List.replicate N 0) ?_ ?_ ?_
  · subst_vars
    simp (disch := omega) only [hN, obs_nil_iff, obs_cons_iff, s_ofNat, s_plus, s_len, s_rd, s_set, s_eql, s_neq, s_lss, s_leq, s_gtr, s_geq, s_not, s_and, s_beq, s_add, s_sub, s_mul, s_wrap, s_diff, s_max, s_min, s_quo, s_rem, s_quo32, s_rem32, s_quo64, s_rem64, s_zerosI, s_cat, wi, wrap_u32', wrap_u64', wrap_u8', decide_eq_true_eq, decide_eq_false_iff_not, beq_iff_eq, beq_eq_false_iff_ne, bne_iff_ne, bne_eq_false_iff_eq, Bool.not_eq_true', Bool.not_eq_false', ne_eq, nc0, nc1, nc4, nc8, Int.toNat_natCast, Int.cast_ofNat_Int, Int.ofNat_eq_natCast, and_true, true_and, s_subL, s_shr32, s_shl32, s_or32]
    (refine ⟨?_, ?_, rfl⟩ <;> repeat' (first | exact .nil | exact .any _ | exact .gone _ | exact .same _ | exact .lit _ _ | exact .nil _ | refine .cons ?_ ?_ | exact AvLe.int_eq (by first | rfl | (simp only [Int.ofNat_eq_natCast]; omega) | omega) | exact AvLe.lit_eq (by first | rfl | (simp only [Int.ofNat_eq_natCast]; omega) | omega) | exact AvLe.osl_eq (by first | rfl | (simp only [Int.ofNat_eq_natCast]; omega) | omega) (by first | rfl | (simp only [Int.ofNat_eq_natCast]; omega) | omega | (simp; done) | (simp; omega)) | refine BlLe.row_eq ?_))
  · refine ⟨Nat.zero_le _, Nat.zero_le _, by simp, Dg.replicate (by decide) N, rfl⟩
  rintro ⟨i, c, out⟩ ⟨h1, h2, h3, h4, h5⟩
  dsimp only at h1 h2 h3 h4 h5
  have ra := da i
  have rb := db i
  by_cases d : i < N
  · (refine AWP.seq (AWP.go k 100 [] ?_); (conv => { arg 1; cbv }); refine ⟨?_, ?_⟩; rotate_left; (try dsimp only [sthen, sblock]); rotate_right; (try exact obs_nil))
    (refine AWP.seq (AWP.go k 100 [true] ?_); (conv => { arg 1; cbv }); refine ⟨?_, ?_⟩; rotate_left; (try dsimp only [sthen, sblock]); rotate_right; (try exact obs_nil))
    · (subst_vars; simp (disch := omega) only [obs_nil_iff, obs_cons_iff, s_ofNat, s_plus, s_len, s_rd, s_set, s_eql, s_neq, s_lss, s_leq, s_gtr, s_geq, s_not, s_and, s_beq, s_add, s_sub, s_mul, s_wrap, s_diff, s_max, s_min, s_quo, s_rem, s_quo32, s_rem32, s_quo64, s_rem64, s_zerosI, s_cat, wi, wrap_u32', wrap_u64', wrap_u8', decide_eq_true_eq, decide_eq_false_iff_not, beq_iff_eq, beq_eq_false_iff_ne, bne_iff_ne, bne_eq_false_iff_eq, Bool.not_eq_true', Bool.not_eq_false', ne_eq, nc0, nc1, nc4, nc8, Int.toNat_natCast, Int.cast_ofNat_Int, Int.ofNat_eq_natCast, and_true, true_and, s_subL, s_shr32, s_shl32, s_or32]; (repeat' apply And.intro) <;> first | trivial | omega)
    (refine AWP.seq (AWP.go k 100 [] ?_); (conv => { arg 1; cbv }); refine ⟨?_, ?_⟩; rotate_left; (try dsimp only [sthen, sblock]); rotate_right; (try exact obs_nil))
    · subst_vars
      simp (disch := omega) only [nnP, obs_nil_iff, obs_cons_iff, s_ofNat, s_plus, s_len, s_rd, s_set, s_eql, s_neq, s_lss, s_leq, s_gtr, s_geq, s_not, s_and, s_beq, s_add, s_sub, s_mul, s_wrap, s_diff, s_max, s_min, s_quo, s_rem, s_quo32, s_rem32, s_quo64, s_rem64, s_zerosI, s_cat, wi, wrap_u32', wrap_u64', wrap_u8', decide_eq_true_eq, decide_eq_false_iff_not, beq_iff_eq, beq_eq_false_iff_ne, bne_iff_ne, bne_eq_false_iff_eq, Bool.not_eq_true', Bool.not_eq_false', ne_eq, nc0, nc1, nc4, nc8, Int.toNat_natCast, Int.cast_ofNat_Int, Int.ofNat_eq_natCast, and_true, true_and, s_subL, s_shr32, s_shl32, s_or32]
      omega
    (refine AWP.go k 100 [] ?_; (conv => { arg 1; cbv }); refine ⟨?_, ?_⟩; rotate_left; (try dsimp only [sthen, sblock]); rotate_right; (try exact obs_nil))
    apply handed.mk (i + 1, (c + ((a.getD i 0).toNat + (b.getD i 0).toNat)) / 4294967296, out.set i (((c + ((a.getD i 0).toNat + (b.getD i 0).toNat)) % 4294967296 : Nat) : Int))
    · subst_vars
      simp (disch := omega) only [rdW, obs_nil_iff, obs_cons_iff, s_ofNat, s_plus, s_len, s_rd, s_set, s_eql, s_neq, s_lss, s_leq, s_gtr, s_geq, s_not, s_and, s_beq, s_add, s_sub, s_mul, s_wrap, s_diff, s_max, s_min, s_quo, s_rem, s_quo32, s_rem32, s_quo64, s_rem64, s_zerosI, s_cat, wi, wrap_u32', wrap_u64', wrap_u8', decide_eq_true_eq, decide_eq_false_iff_not, beq_iff_eq, beq_eq_false_iff_ne, bne_iff_ne, bne_eq_false_iff_eq, Bool.not_eq_true', Bool.not_eq_false', ne_eq, nc0, nc1, nc4, nc8, Int.toNat_natCast, Int.cast_ofNat_Int, Int.ofNat_eq_natCast, and_true, true_and, s_subL, s_shr32, s_shl32, s_or32]
      (refine ⟨?_, ?_, rfl⟩ <;> repeat' (first | exact .nil | exact .any _ | exact .gone _ | exact .same _ | exact .lit _ _ | exact .nil _ | refine .cons ?_ ?_ | exact AvLe.int_eq (by first | rfl | (simp only [Int.ofNat_eq_natCast]; omega) | omega) | exact AvLe.lit_eq (by first | rfl | (simp only [Int.ofNat_eq_natCast]; omega) | omega) | exact AvLe.osl_eq (by first | rfl | (simp only [Int.ofNat_eq_natCast]; omega) | omega) (by first | rfl | (simp only [Int.ofNat_eq_natCast]; omega) | omega | (simp; done) | (simp; omega)) | refine BlLe.row_eq ?_))
      congr 1 <;> omega
    · dsimp only
      refine ⟨by omega, by omega, by simp [h3], h4.set (by omega), ?_⟩
      rw [pre_succ, pre_succ, pre_succ, pre_set (Nat.le_refl _), getD_set (by omega), if_pos rfl, Int.toNat_natCast, Nat.pow_succ]
      exact add_step h5
    · dsimp only; omega
  · (refine AWP.seq (AWP.go k 100 [] ?_); (conv => { arg 1; cbv }); refine ⟨?_, ?_⟩; rotate_left; (try dsimp only [sthen, sblock]); rotate_right; (try exact obs_nil))
    (refine AWP.seq (AWP.go k 100 [false] ?_); (conv => { arg 1; cbv }); refine ⟨?_, ?_⟩; rotate_left; (try dsimp only [sthen, sblock]); rotate_right; (try exact obs_nil))
    · (subst_vars; simp (disch := omega) only [obs_nil_iff, obs_cons_iff, s_ofNat, s_plus, s_len, s_rd, s_set, s_eql, s_neq, s_lss, s_leq, s_gtr, s_geq, s_not, s_and, s_beq, s_add, s_sub, s_mul, s_wrap, s_diff, s_max, s_min, s_quo, s_rem, s_quo32, s_rem32, s_quo64, s_rem64, s_zerosI, s_cat, wi, wrap_u32', wrap_u64', wrap_u8', decide_eq_true_eq, decide_eq_false_iff_not, beq_iff_eq, beq_eq_false_iff_ne, bne_iff_ne, bne_eq_false_iff_eq, Bool.not_eq_true', Bool.not_eq_false', ne_eq, nc0, nc1, nc4, nc8, Int.toNat_natCast, Int.cast_ofNat_Int, Int.ofNat_eq_natCast, and_true, true_and, s_subL, s_shr32, s_shl32, s_or32]; (repeat' apply And.intro) <;> first | trivial | omega)
    (dsimp only [handed, handedR, sblock, sthen]; rw [if_pos rfl])
    have hi : i = N := by omega
    subst hi
    (refine AWP.seq (AWP.go k 100 [] ?_); (conv => { arg 1; cbv }); refine ⟨?_, ?_⟩; rotate_left; (try dsimp only [sthen, sblock]); rotate_right; (try exact obs_nil))
    (refine AWP.go k 100 [] ?_; (conv => { arg 1; cbv }); refine ⟨?_, ?_⟩; rotate_left; (try dsimp only [sthen, sblock]); rotate_right; (try exact obs_nil))
    (refine ⟨fun id => by simp, ?_⟩; conv => { lhs; cbv })
    subst_vars
    simp (disch := omega) only [obs_nil_iff, obs_cons_iff, s_ofNat, s_plus, s_len, s_rd, s_set, s_eql, s_neq, s_lss, s_leq, s_gtr, s_geq, s_not, s_and, s_beq, s_add, s_sub, s_mul, s_wrap, s_diff, s_max, s_min, s_quo, s_rem, s_quo32, s_rem32, s_quo64, s_rem64, s_zerosI, s_cat, wi, wrap_u32', wrap_u64', wrap_u8', decide_eq_true_eq, decide_eq_false_iff_not, beq_iff_eq, beq_eq_false_iff_ne, bne_iff_ne, bne_eq_false_iff_eq, Bool.not_eq_true', Bool.not_eq_false', ne_eq, nc0, nc1, nc4, nc8, Int.toNat_natCast, Int.cast_ofNat_Int, Int.ofNat_eq_natCast, and_true, true_and, s_subL, s_shr32, s_shl32, s_or32]
    have e : V (4294967296 : Nat) out = V (4294967296 : Nat) a + V (4294967296 : Nat) b := by
      rw [pre_ge (Nat.le_of_eq rfl), pre_ge (by omega), pre_ge (by omega)] at h5
      have h6 := V_lt da
      have h7 := V_lt db
      have h8 : (4294967296 : Nat) ^ a.length ≤ (4294967296 : Nat) ^ (out.length - 1) := Nat.pow_le_pow_right (by decide) (by omega)
      have h9 : (4294967296 : Nat) ^ b.length ≤ (4294967296 : Nat) ^ (out.length - 1) := Nat.pow_le_pow_right (by decide) (by omega)
      have h10 : (4294967296 : Nat) ^ out.length = (4294967296 : Nat) ^ (out.length - 1) * (4294967296 : Nat) := by rw [← Nat.pow_succ]; congr 1; omega
      rw [h10] at h5
      generalize (4294967296 : Nat) ^ (out.length - 1) = M at *
      obtain rfl : c = 0 := by
        apply Classical.byContradiction; intro hc
        obtain rfl : c = 1 := by omega
        omega
      omega
    rw [adW, ← e, trW]
    congr 3
    simp
theorem h_add : Holds Try.prog 18 (gSS_Sp adW sz2) := holds_SS_Sp fun a b ha hb hp => w_add _ rfl _ rfl _ rfl _ rfl ⟨h_trim, h_word, trivial⟩ a b ha hb (of_decide_eq_true hp).1 (of_decide_eq_true hp).2
end Go.Proofs.SX

namespace Go.Proofs.SX
open Go Go.Proofs Go.RowKit
attribute [local go_sem] Oper.semAt_some


set_option maxRecDepth 100000 in
set_option maxHeartbeats 2000000 in
theorem down1_in (F : Fence) (n : Nat) (h7 : F.fn 70) (hro : F.round = none) (hn : 1 ≤ n) (l : Nat) (Bs ad0 : Addr) (own : Nat → Prop) (cap : Nat) (zs : List Int) (hreach : zs.length ≤ 9223372036854775807) (J Jx : List (Idx zs) → World → Prop)
    (hY : ∀ pre x W, J pre W → pre.length < zs.length → YieldAt F (n - 1) Try.prog l (dEnc .u32 zs x) W fun e W' =>
      (e = .returned (.bool true) ∧ J (pre ++ [x]) W' ∧ keepC own W W') ∨ (e = .returned (.bool false) ∧ Jx (pre ++ [x]) W'))
    (W : World) (hBs : W.cell? Bs = some (.slice (some ad0) zs.length cap)) (hBo : ¬ own Bs.block) (hao : ¬ own ad0.block) (hc : ∀ j, j < zs.length → W.cell? (ad0.add j) = some (.int .u32 (zs.getD j 0))) (h0 : J [] W) :
    CallsIn F n Try.prog 70 #[.func (.yield l) #[] #[], .pointer (some Bs)] W fun e W' => (∃ v, e = .returned v) ∧
      ((∃ ys, ixs ys = downL zs.length ∧ J ys W') ∨ (∃ pre, ixs pre <+: downL zs.length ∧ Jx pre W')) := by
  refine callsIn_of_wp Try.func70 rfl h7 ?_ hro
  simp only [Try.ntmps70, List.size_toArray, List.length_cons, List.length_nil, Nat.reduceAdd, Nat.reduceSub, Array.replicate_succ, Array.replicate_zero, List.push_toArray, List.append_toArray, List.nil_append, List.cons_append]
  gi_wp2
  gi_loopw [3] (fun i wr => ∃ (k : Nat) (ys : List (Idx zs)), k ≤ zs.length ∧ i = .int .i64 ((k : Int) - 1) ∧ ixs ys = (downL zs.length).take (zs.length - k) ∧ J ys wr ∧ keepC own W wr)
    (fun i _ => (intOf i + 1).toNat)
  case atStart =>
    refine ⟨zs.length, [], Nat.le_refl _, ?_, by simp [ixs], h0, fun ad v h _ => h⟩
    rfl
  case round =>
    obtain ⟨k, ys, hk, rfl, hys, hJs, hnx⟩ := hrel
    by_cases hlt : 0 < k
    · obtain ⟨j, rfl⟩ : ∃ j, k = j + 1 := ⟨k - 1, by omega⟩
      have hcx : wr.cell? (ad0.add j) = some (.int .u32 (zs.getD j 0)) := hnx _ _ (hc j (by omega)) (by rw [show (ad0.add j).block = ad0.block by unfold Addr.add; split <;> rfl]; exact hao)
      have hBx : wr.cell? Bs = some (.slice (some ad0) zs.length cap) := hnx _ _ hBs hBo
      have hyl : ys.length < zs.length := by
        have := congrArg List.length hys
        simp [ixs, downL] at this
        omega
      obtain ⟨fn, tmps, assign, body, hy, hR⟩ := hY ys ⟨j, by omega⟩ wr hJs hyl
      have e1 : ((j + 1 : Nat) : Int) - 1 = (j : Int) := by omega
      rw [e1]
      dsimp only [dEnc] at hy
      simp only [List.getD_eq_getElem?_getD] at hy
      have hlen : (downL zs.length).length = zs.length := by simp [downL]
      have hget : (downL zs.length)[zs.length - (j + 1)]? = some j := by
        unfold downL
        rw [List.getElem?_reverse (by rw [List.length_range]; omega), List.length_range, List.getElem?_range (by omega)]
        congr 1; omega
      have hstep : ixs (ys ++ [(⟨j, by omega⟩ : Idx zs)]) = (downL zs.length).take (zs.length - j) := by
        rw [ixs_snoc, hys, show zs.length - j = zs.length - (j + 1) + 1 by omega, List.take_add_one, hget]
        rfl
      gi_wp2
      refine hR.mono ?_
      rintro e W3 (⟨rfl, hJ3, hk3⟩ | ⟨rfl, hJx3⟩)
      · gi_wp2
        go_roundw
        case rel => exact ⟨j, _, by omega, rfl, hstep, hJ3, fun ad v h ho => hk3 _ _ (hnx _ _ h ho) ho⟩
        case measure => simp [intOf]
      · gi_wp2
        refine bodyPost_ret (results_none rfl _ _ _) rfl ?_
        exact ⟨⟨_, rfl⟩, .inr ⟨_, by rw [hstep]; exact List.take_prefix _ _, hJx3⟩⟩
    · obtain rfl : k = 0 := by omega
      gi_wp2
      go_end0
      exact ⟨⟨_, rfl⟩, .inl ⟨_, by rw [hys, Nat.sub_zero]; exact List.take_of_length_le (by simp [downL]), hJs⟩⟩
set_option maxRecDepth 100000 in
set_option maxHeartbeats 2000000 in
theorem down1_nil (F : Fence) (n : Nat) (h7 : F.fn 70) (hro : F.round = none) (l : Nat) (Bs : Addr) (a : Option Addr) (cap : Nat) (J : World → Prop)
    (W : World) (hBs : W.cell? Bs = some (.slice a 0 cap)) (h0 : J W) :
    CallsIn F n Try.prog 70 #[.func (.yield l) #[] #[], .pointer (some Bs)] W fun e W' => (∃ v, e = .returned v) ∧ J W' := by
  refine callsIn_of_wp Try.func70 rfl h7 ?_ hro
  simp only [Try.ntmps70, List.size_toArray, List.length_cons, List.length_nil, Nat.reduceAdd, Nat.reduceSub, Array.replicate_succ, Array.replicate_zero, List.push_toArray, List.append_toArray, List.nil_append, List.cons_append]
  gi_wp2
  gi_loopw [3] (fun i wr => i = .int .i64 (-1) ∧ J wr) (fun i _ => 0)
  case atStart => exact ⟨rfl, h0⟩
  case round =>
    obtain ⟨rfl, hJs⟩ := hrel
    gi_wp2
    go_end0
    exact ⟨⟨_, rfl⟩, hJs⟩
theorem h_down1 : DownOk Try.prog 70 .u32 := by
  refine ⟨fun args w => rfl, ?_⟩
  rintro n hn xs own w ad u hc ho ⟨a, cap, rfl, h1, h2, h3, h4⟩
  intro l J Jx W hW _ _ hY h0
  have hk : ∀ {p : Addr} {v : Value}, w.cell? p = some v → W.cell? p = some v := fun {p v} h => by
    rw [hW.cell (p := p) (block_lt_of_cell h)]; exact h
  by_cases hx : xs = []
  · subst hx
    exact (down1_nil Fence.wide n trivial rfl l ad a cap (J []) W (hk hc) h0).mono fun e W' ⟨he, hj⟩ => ⟨he, .inl ⟨[], by simp [ixs, downL], hj⟩⟩
  · obtain ⟨ad0, rfl, hr⟩ := h4 hx
    exact down1_in Fence.wide n trivial rfl (by omega) l ad ad0 own cap xs h2 J Jx hY W (hk hc) ho hr.far (fun j hj => hk (hr.cell j _ (by rw [List.getD_eq_getElem?_getD, List.getElem?_eq_getElem hj]; rfl))) h0
end Go.Proofs.SX

namespace Go.Proofs.SX
open Go Go.Proofs Go.RowKit
attribute [local go_sem] Oper.semAt_some
theorem wrap64_small {x : Int} (h : -9223372036854775808 ≤ x ∧ x < 9223372036854775808) : wrap64 x = x := by unfold wrap64; omega
set_option maxRecDepth 100000 in
set_option maxHeartbeats 2000000 in
theorem len32_in (x : Int) (hx : 0 ≤ x ∧ x < 4294967296) (w : World) :
    CallsIn Fence.wide 9 Try.prog 52 #[.int .u32 x] w fun e w' => e = .returned (.int .i64 (bitLen x.toNat)) ∧ w' = w := by
  refine callsIn_of_wp Try.func52 rfl trivial ?_ rfl
  simp only [Try.ntmps52, List.size_toArray, List.length_cons, List.length_nil, Nat.reduceAdd, Nat.reduceSub, Array.replicate_succ, Array.replicate_zero, List.push_toArray, List.append_toArray, List.nil_append, List.cons_append]
  by_cases h1 : x < 256
  · gi_wp2
    go_ret
    refine ⟨?_, rfl⟩
    rw [len8tab_get]
    have := bitLen_le8 x.toNat (by omega)
    rw [wrap64_small (x := wrap64 _) (by rw [wrap64_small (by omega)]; omega), wrap64_small (by omega)]
    rfl
  · by_cases h2 : x < 65536
    · have h4 : 0 ≤ x / 256 ∧ x / 256 < 256 := by omega
      gi_wp2
      go_ret
      refine ⟨?_, rfl⟩
      rw [len8tab_get]
      have := bitLen_le8 (x / 256).toNat (by omega)
      have e : bitLen x.toNat = 8 + bitLen (x / 256).toNat := by
        have := bitLen_shift x.toNat 8 (by omega)
        rw [this]; congr 2; omega
      rw [wrap64_small (x := 8 + _) (by rw [wrap64_small (by omega)]; omega), wrap64_small (by omega), e]
      rfl
    · by_cases h3 : x < 16777216
      · have h4 : 0 ≤ x / 65536 ∧ x / 65536 < 256 := by omega
        gi_wp2
        go_ret
        refine ⟨?_, rfl⟩
        rw [len8tab_get]
        have := bitLen_le8 (x / 65536).toNat (by omega)
        have e : bitLen x.toNat = 16 + bitLen (x / 65536).toNat := by
          have := bitLen_shift x.toNat 16 (by omega)
          rw [this]; congr 2; omega
        rw [wrap64_small (x := 16 + _) (by rw [wrap64_small (by omega)]; omega), wrap64_small (by omega), e]
        rfl
      · have h4 : 256 ≤ x / 65536 ∧ x / 65536 / 256 < 256 ∧ 0 ≤ x / 65536 / 256 := by omega
        gi_wp2
        go_ret
        refine ⟨?_, rfl⟩
        rw [len8tab_get]
        have := bitLen_le8 (x / 65536 / 256).toNat (by omega)
        have e : bitLen x.toNat = 24 + bitLen (x / 65536 / 256).toNat := by
          have := bitLen_shift x.toNat 24 (by omega)
          rw [this]; congr 2; omega
        rw [wrap64_small (x := 24 + _) (by rw [wrap64_small (by omega)]; omega), wrap64_small (by omega), e]
        rfl
def lenV (x : Int) : Int := bitLen x.toNat
theorem h_len32 : Holds Try.prog 52 (gU_I stdAr lenV) := holds_U_I fun x hx => by
  have hx := rg32.1 hx
  intro own w vs hown hvs
  obtain ⟨v, vs', rfl, ⟨rfl, _⟩, rfl⟩ := hvs
  unfold CallsX
  refine ((callsIn_wide (n := 9)).1 (len32_in x hx w)).mono ?_
  rintro e w' ⟨rfl, rfl⟩
  refine ⟨_, rfl, ⟨rfl, ?_⟩, Below.refl _ _⟩
  have := (bitLen_spec x.toNat).2
  refine rg_lit .i64 _ ?_
  unfold bitLen
  split
  · omega
  · rename_i h0
    have := (Nat.log2_lt h0).2 (show x.toNat < 2 ^ 32 by omega)
    simp [kmax]; omega
end Go.Proofs.SX

namespace Go.Proofs.SX
open Go Go.Proofs
set_option maxRecDepth 100000
set_option linter.unusedVariables false
set_option linter.unusedSimpArgs false
def c1P (x y c : Int) : Bool := decide (c ≤ 1)
theorem w_sub32 (A : Ar) (hA : A = stdAr) (x y c : Int) (hx : Rg .u32 x) (hy : Rg .u32 y) (hc : Rg .u32 c) (h1 : c ≤ 1) : FCall Try.prog 68 [.int .u32 x, .int .u32 y, .int .u32 c] (.tup [.int .u32 (sb32 x y c), .int .u32 (bo32 x y c)]) := by
  have hG : allHold Try.prog [] := trivial
  have hx := rg32.1 hx
  have hy := rg32.1 hy
  have hc := rg32.1 hc
  (refine FCall.exec (ok_of hA hG) (fn := Try.f68) 100 [] rfl rfl rfl (fun _ => ?_); (conv => { arg 1; cbv }); refine ⟨?_, ?_⟩; (try exact obs_nil))
  · (subst_vars; simp (disch := omega) only [obs_nil_iff, obs_cons_iff, s_ofNat, s_plus, s_len, s_rd, s_set, s_eql, s_neq, s_lss, s_leq, s_gtr, s_geq, s_not, s_and, s_beq, s_add, s_sub, s_mul, s_wrap, s_diff, s_max, s_min, s_quo, s_rem, s_quo32, s_rem32, s_quo64, s_rem64, s_zerosI, s_cat, wi, wrap_u32', wrap_u64', wrap_u8', decide_eq_true_eq, decide_eq_false_iff_not, beq_iff_eq, beq_eq_false_iff_ne, bne_iff_ne, bne_eq_false_iff_eq, Bool.not_eq_true', Bool.not_eq_false', ne_eq, nc0, nc1, nc4, nc8, Int.toNat_natCast, Int.cast_ofNat_Int, Int.ofNat_eq_natCast, and_true, true_and, s_subL, s_shr32, s_shl32, s_or32]; (repeat' apply And.intro) <;> first | trivial | omega)
  · subst_vars
    have e : stdAr.bin .sub .u32 (stdAr.bin .sub .u32 x y) c = sb32 x y c := by simp (disch := omega) only [obs_nil_iff, obs_cons_iff, s_ofNat, s_plus, s_len, s_rd, s_set, s_eql, s_neq, s_lss, s_leq, s_gtr, s_geq, s_not, s_and, s_beq, s_add, s_sub, s_mul, s_wrap, s_diff, s_max, s_min, s_quo, s_rem, s_quo32, s_rem32, s_quo64, s_rem64, s_zerosI, s_cat, wi, wrap_u32', wrap_u64', wrap_u8', decide_eq_true_eq, decide_eq_false_iff_not, beq_iff_eq, beq_eq_false_iff_ne, bne_iff_ne, bne_eq_false_iff_eq, Bool.not_eq_true', Bool.not_eq_false', ne_eq, nc0, nc1, nc4, nc8, Int.toNat_natCast, Int.cast_ofNat_Int, Int.ofNat_eq_natCast, and_true, true_and, s_subL, s_shr32, s_shl32, s_or32]; unfold sb32; omega
    have e2 := borrow32 hx hy ⟨hc.1, h1⟩
    rw [← e2, ← e]; rfl
theorem h_sub32 : Holds Try.prog 68 (gUUU_UUp stdAr sb32 bo32 c1P) := holds_UUU_UUp fun x y c hx hy hc h => w_sub32 _ rfl x y c hx hy hc (of_decide_eq_true h)
theorem w_add32 (A : Ar) (hA : A = stdAr) (x y c : Int) (hx : Rg .u32 x) (hy : Rg .u32 y) (hc : Rg .u32 c) : FCall Try.prog 72 [.int .u32 x, .int .u32 y, .int .u32 c] (.tup [.int .u32 (ad32 x y c), .int .u32 (ca32 x y c)]) := by
  have hG : allHold Try.prog [] := trivial
  have hx := rg32.1 hx
  have hy := rg32.1 hy
  have hc := rg32.1 hc
  (refine FCall.exec (ok_of hA hG) (fn := Try.f72) 100 [] rfl rfl rfl (fun _ => ?_); (conv => { arg 1; cbv }); refine ⟨?_, ?_⟩; (try exact obs_nil))
  · (subst_vars; simp (disch := omega) only [obs_nil_iff, obs_cons_iff, s_ofNat, s_plus, s_len, s_rd, s_set, s_eql, s_neq, s_lss, s_leq, s_gtr, s_geq, s_not, s_and, s_beq, s_add, s_sub, s_mul, s_wrap, s_diff, s_max, s_min, s_quo, s_rem, s_quo32, s_rem32, s_quo64, s_rem64, s_zerosI, s_cat, wi, wrap_u32', wrap_u64', wrap_u8', decide_eq_true_eq, decide_eq_false_iff_not, beq_iff_eq, beq_eq_false_iff_ne, bne_iff_ne, bne_eq_false_iff_eq, Bool.not_eq_true', Bool.not_eq_false', ne_eq, nc0, nc1, nc4, nc8, Int.toNat_natCast, Int.cast_ofNat_Int, Int.ofNat_eq_natCast, and_true, true_and, s_subL, s_shr32, s_shl32, s_or32]; (repeat' apply And.intro) <;> first | trivial | omega)
  · subst_vars
    simp (disch := omega) only [obs_nil_iff, obs_cons_iff, s_ofNat, s_plus, s_len, s_rd, s_set, s_eql, s_neq, s_lss, s_leq, s_gtr, s_geq, s_not, s_and, s_beq, s_add, s_sub, s_mul, s_wrap, s_diff, s_max, s_min, s_quo, s_rem, s_quo32, s_rem32, s_quo64, s_rem64, s_zerosI, s_cat, wi, wrap_u32', wrap_u64', wrap_u8', decide_eq_true_eq, decide_eq_false_iff_not, beq_iff_eq, beq_eq_false_iff_ne, bne_iff_ne, bne_eq_false_iff_eq, Bool.not_eq_true', Bool.not_eq_false', ne_eq, nc0, nc1, nc4, nc8, Int.toNat_natCast, Int.cast_ofNat_Int, Int.ofNat_eq_natCast, and_true, true_and, s_subL, s_shr32, s_shl32, s_or32]
    unfold ad32 ca32
    congr 3 <;> congr 1 <;> omega
def trueP3 (x y c : Int) : Bool := true
theorem h_add32 : Holds Try.prog 72 (gUUU_UUp stdAr ad32 ca32 trueP3) := holds_UUU_UUp fun x y c hx hy hc h => w_add32 _ rfl x y c hx hy hc
def dq32 (x y d : Int) : Int := (x * 4294967296 + y) / d
def dr32 (x y d : Int) : Int := (x * 4294967296 + y) % d
def divP (x y d : Int) : Bool := decide (x < d)
theorem w_div32 (A : Ar) (hA : A = stdAr) (x y d : Int) (hx : Rg .u32 x) (hy : Rg .u32 y) (hd : Rg .u32 d) (h1 : x < d) : FCall Try.prog 71 [.int .u32 x, .int .u32 y, .int .u32 d] (.tup [.int .u32 (dq32 x y d), .int .u32 (dr32 x y d)]) := by
  have hG : allHold Try.prog [] := trivial
  have hx := rg32.1 hx
  have hy := rg32.1 hy
  have hd := rg32.1 hd
  (refine FCall.exec (ok_of hA hG) (fn := Try.f71) 100 [true, true, true, true, false] rfl rfl rfl (fun _ => ?_); (conv => { arg 1; cbv }); refine ⟨?_, ?_⟩; (try exact obs_nil))
  · (subst_vars; simp (disch := omega) only [obs_nil_iff, obs_cons_iff, s_ofNat, s_plus, s_len, s_rd, s_set, s_eql, s_neq, s_lss, s_leq, s_gtr, s_geq, s_not, s_and, s_beq, s_add, s_sub, s_mul, s_wrap, s_diff, s_max, s_min, s_quo, s_rem, s_quo32, s_rem32, s_quo64, s_rem64, s_zerosI, s_cat, wi, wrap_u32', wrap_u64', wrap_u8', decide_eq_true_eq, decide_eq_false_iff_not, beq_iff_eq, beq_eq_false_iff_ne, bne_iff_ne, bne_eq_false_iff_eq, Bool.not_eq_true', Bool.not_eq_false', ne_eq, nc0, nc1, nc4, nc8, Int.toNat_natCast, Int.cast_ofNat_Int, Int.ofNat_eq_natCast, and_true, true_and, s_subL, s_shr32, s_shl32, s_or32]; (repeat' apply And.intro) <;> first | trivial | omega)
  · subst_vars
    simp (disch := omega) only [Int.emod_eq_of_lt, obs_nil_iff, obs_cons_iff, s_ofNat, s_plus, s_len, s_rd, s_set, s_eql, s_neq, s_lss, s_leq, s_gtr, s_geq, s_not, s_and, s_beq, s_add, s_sub, s_mul, s_wrap, s_diff, s_max, s_min, s_quo, s_rem, s_quo32, s_rem32, s_quo64, s_rem64, s_zerosI, s_cat, wi, wrap_u32', wrap_u64', wrap_u8', decide_eq_true_eq, decide_eq_false_iff_not, beq_iff_eq, beq_eq_false_iff_ne, bne_iff_ne, bne_eq_false_iff_eq, Bool.not_eq_true', Bool.not_eq_false', ne_eq, nc0, nc1, nc4, nc8, Int.toNat_natCast, Int.cast_ofNat_Int, Int.ofNat_eq_natCast, and_true, true_and, s_subL, s_shr32, s_shl32, s_or32]
    have h2 : 0 ≤ (x * 4294967296 + y) / d := Int.ediv_nonneg (by omega) (by omega)
    have h3 : (x * 4294967296 + y) / d < 4294967296 := Int.ediv_lt_of_lt_mul (by omega) (by
      have : (x + 1) * 4294967296 ≤ d * 4294967296 := Int.mul_le_mul_of_nonneg_right (by omega) (by decide)
      rw [Int.mul_comm 4294967296 d]; omega)
    have h4 : 0 ≤ (x * 4294967296 + y) % d := Int.emod_nonneg _ (by omega)
    have h5 : (x * 4294967296 + y) % d < d := Int.emod_lt_of_pos _ (by omega)
    simp (disch := omega) only [Int.emod_eq_of_lt, obs_nil_iff, obs_cons_iff, s_ofNat, s_plus, s_len, s_rd, s_set, s_eql, s_neq, s_lss, s_leq, s_gtr, s_geq, s_not, s_and, s_beq, s_add, s_sub, s_mul, s_wrap, s_diff, s_max, s_min, s_quo, s_rem, s_quo32, s_rem32, s_quo64, s_rem64, s_zerosI, s_cat, wi, wrap_u32', wrap_u64', wrap_u8', decide_eq_true_eq, decide_eq_false_iff_not, beq_iff_eq, beq_eq_false_iff_ne, bne_iff_ne, bne_eq_false_iff_eq, Bool.not_eq_true', Bool.not_eq_false', ne_eq, nc0, nc1, nc4, nc8, Int.toNat_natCast, Int.cast_ofNat_Int, Int.ofNat_eq_natCast, and_true, true_and, s_subL, s_shr32, s_shl32, s_or32]
    rfl
theorem h_div32 : Holds Try.prog 71 (gUUU_UUp stdAr dq32 dr32 divP) := holds_UUU_UUp fun x y d hx hy hd h => w_div32 _ rfl x y d hx hy hd (of_decide_eq_true h)
def lzV (x : Int) : Int := 32 - lenV x
theorem lenV_le {x : Int} (h : 0 ≤ x ∧ x < 4294967296) : 0 ≤ lenV x ∧ lenV x ≤ 32 := by
  unfold lenV bitLen
  split
  · omega
  · rename_i h0
    have := (Nat.log2_lt h0).2 (show x.toNat < 2 ^ 32 by omega)
    omega
theorem w_lz32 (A : Ar) (hA : A = stdAr) (ln : Int → Int) (hln : ln = lenV) (hG : allHold Try.prog [(52, gU_I A ln)]) (x : Int) (hx : Rg .u32 x) : FCall Try.prog 57 [.int .u32 x] (.int .i64 (lzV x)) := by
  have hx := rg32.1 hx
  (refine FCall.exec (ok_of hA hG) (fn := Try.f57) 100 [] rfl rfl rfl (fun _ => ?_); (conv => { arg 1; cbv }); refine ⟨?_, ?_⟩; (try exact obs_nil))
  · subst_vars
    have := lenV_le hx
    simp (disch := omega) only [obs_nil_iff, obs_cons_iff, s_ofNat, s_plus, s_len, s_rd, s_set, s_eql, s_neq, s_lss, s_leq, s_gtr, s_geq, s_not, s_and, s_beq, s_add, s_sub, s_mul, s_wrap, s_diff, s_max, s_min, s_quo, s_rem, s_quo32, s_rem32, s_quo64, s_rem64, s_zerosI, s_cat, wi, wrap_u32', wrap_u64', wrap_u8', decide_eq_true_eq, decide_eq_false_iff_not, beq_iff_eq, beq_eq_false_iff_ne, bne_iff_ne, bne_eq_false_iff_eq, Bool.not_eq_true', Bool.not_eq_false', ne_eq, nc0, nc1, nc4, nc8, Int.toNat_natCast, Int.cast_ofNat_Int, Int.ofNat_eq_natCast, and_true, true_and, s_subL, s_shr32, s_shl32, s_or32]
    rfl
theorem h_lz32 : Holds Try.prog 57 (gU_I stdAr lzV) := holds_U_I fun x hx => w_lz32 _ rfl _ rfl ⟨h_len32, trivial⟩ x hx
def gDown (f : FuncId) : List AV → Option (AV × Ob) := fun l => match l with | [.sli .u32 x] => some (.itd f .u32 x, []) | _ => none
theorem w_down (A : Ar) (hA : A = stdAr) (a : LI) : FCall Try.prog 48 [.sli .u32 a] (.itd 70 .u32 a) := by
  have hG : allHold Try.prog [] := trivial
  (refine FCall.exec (ok_of hA hG) (fn := Try.f48) 100 [] rfl rfl rfl (fun _ => ?_); (conv => { arg 1; cbv }); refine ⟨?_, ?_⟩; (try exact obs_nil))
  rfl
theorem h_down : Holds Try.prog 48 (gDown 70) := by
  intro args r ob hg ho
  unfold gDown at hg
  split at hg
  · simp only [Option.some.injEq, Prod.mk.injEq] at hg; obtain ⟨rfl, rfl⟩ := hg
    exact w_down _ rfl _
  · simp at hg
end Go.Proofs.SX

namespace Go.Proofs.SX
open Go Go.Proofs
set_option maxRecDepth 100000
set_option linter.unusedVariables false
set_option linter.unusedSimpArgs false
def biV (a : LI) : Int := bitLen (V (4294967296 : Nat) a)
theorem V_top {b : Nat} {a : LI} {i : Nat} (hi : i < a.length) (h : ∀ j, i < j → a.getD j 0 = 0) : V b a = pre b a i + (a.getD i 0).toNat * b ^ i := by
  rw [← pre_succ]
  exact (pre_zero_of (k := a.length) (i := i + 1) (by omega) fun j hj => h j (by omega)).symm ▸ rfl
theorem bit_top {a : LI} {i : Nat} (da : Dg (4294967296 : Nat) a) (hi : i < a.length) (h : ∀ j, i < j → a.getD j 0 = 0) (hne : a.getD i 0 ≠ 0) : biV a = 32 * i + lenV (a.getD i 0) := by
  have h1 := pre_lt da i
  have h2 := da i
  have hp : (2 : Nat) ^ (32 * i) = (4294967296 : Nat) ^ i := by rw [Nat.pow_mul]
  have e : V (4294967296 : Nat) a / 2 ^ (32 * i) = (a.getD i 0).toNat := by
    rw [V_top hi h, hp, Nat.add_mul_div_right _ _ (by omega), Nat.div_eq_of_lt h1, Nat.zero_add]
  have := bitLen_shift (V (4294967296 : Nat) a) (32 * i) (by rw [e]; omega)
  unfold biV lenV
  rw [this, e]; omega
theorem w_bits (A : Ar) (hA : A = stdAr) (ln : Int → Int) (hln : ln = lenV) (hG : allHold Try.prog [(48, gDown 70), (52, gU_I A ln)])
    (a : LI) (ha : Nm .u32 a) (la : a.length ≤ 1048576) : FCall Try.prog 20 [.sli .u32 a] (.int .i64 (biV a)) := by
  have k := ok_of hA hG
  have da := nm32 ha
  refine FCall.of_body k (fn := Try.f20) rfl rfl rfl rfl (fun _ => ?_)
  (refine AWP.seq (AWP.go k 100 [] ?_); (conv => { arg 1; cbv }); refine ⟨?_, ?_⟩; rotate_left; (try dsimp only [sthen, sblock]); rotate_right; (try exact obs_nil))
  refine AWP.seq ?_
  (refine AWP.seq (AWP.go k 100 [] ?_); (conv => { arg 1; cbv }); refine ⟨?_, ?_⟩; rotate_left; (try dsimp only [sthen, sblock]); rotate_right; (try exact obs_nil))
  refine AWP.block ?_
  refine AWP.range k rfl (by decide) h_down1 (by decide) (by simp) (by simp) (by decide) ⟨_, _, _, _, rfl, ⟨rfl, rfl, rfl⟩, ⟨rfl, rfl, rfl⟩⟩ rfl (fun l hp => hp = [.cells [.lit .i64 0]] ∧ ∀ j ∈ l, a.getD j 0 = 0) ⟨rfl, fun _ h => by cases h⟩ ?_ ?_
  · rintro hr l i hp hi ⟨rfl, hl⟩
    have dai := da i
    have key := bit_top (a := a) (i := i) da hi
    generalize hw : a.getD i 0 = w at dai key ⊢
    by_cases c : w = 0
    · (refine RoundOk.go 100 [false] ?_; (conv => { arg 1; cbv }); refine ⟨?_, ?_, ?_⟩; rotate_left; (focus (repeat' (first | exact trivial | exact (fun h => h) | (intro h; cases h; done) | refine ⟨?_, ?_⟩))); rotate_left; (try exact obs_nil))
      · (subst_vars; simp (disch := omega) only [obs_nil_iff, obs_cons_iff, s_ofNat, s_plus, s_len, s_rd, s_set, s_eql, s_neq, s_lss, s_leq, s_gtr, s_geq, s_not, s_and, s_beq, s_add, s_sub, s_mul, s_wrap, s_diff, s_max, s_min, s_quo, s_rem, s_quo32, s_rem32, s_quo64, s_rem64, s_zerosI, s_cat, wi, wrap_u32', wrap_u64', wrap_u8', decide_eq_true_eq, decide_eq_false_iff_not, beq_iff_eq, beq_eq_false_iff_ne, bne_iff_ne, bne_eq_false_iff_eq, Bool.not_eq_true', Bool.not_eq_false', ne_eq, nc0, nc1, nc4, nc8, Int.toNat_natCast, Int.cast_ofNat_Int, Int.ofNat_eq_natCast, and_true, true_and, s_subL, s_shr32, s_shl32, s_or32]; (repeat' apply And.intro) <;> first | trivial | omega)
      · refine ⟨rfl, fun j hj => ?_⟩
        rcases List.mem_append.1 hj with h | h
        · exact hl j h
        · rw [List.mem_singleton.1 h, hw]; exact c
    · have dl := lenV_le dai
      (refine RoundOk.go 100 [true] ?_; (conv => { arg 1; cbv }); refine ⟨?_, ?_, ?_⟩; rotate_left; (focus (repeat' (first | exact trivial | exact (fun h => h) | (intro h; cases h; done) | refine ⟨?_, ?_⟩))); rotate_left; (try exact obs_nil))
      · (subst_vars; simp (disch := omega) only [obs_nil_iff, obs_cons_iff, s_ofNat, s_plus, s_len, s_rd, s_set, s_eql, s_neq, s_lss, s_leq, s_gtr, s_geq, s_not, s_and, s_beq, s_add, s_sub, s_mul, s_wrap, s_diff, s_max, s_min, s_quo, s_rem, s_quo32, s_rem32, s_quo64, s_rem64, s_zerosI, s_cat, wi, wrap_u32', wrap_u64', wrap_u8', decide_eq_true_eq, decide_eq_false_iff_not, beq_iff_eq, beq_eq_false_iff_ne, bne_iff_ne, bne_eq_false_iff_eq, Bool.not_eq_true', Bool.not_eq_false', ne_eq, nc0, nc1, nc4, nc8, Int.toNat_natCast, Int.cast_ofNat_Int, Int.ofNat_eq_natCast, and_true, true_and, s_subL, s_shr32, s_shl32, s_or32]; (repeat' apply And.intro) <;> first | trivial | omega)
      · intro hpre
        obtain ⟨h1, h2⟩ := down_pre hpre
        have e := key (fun j hj => by
          by_cases hjn : j < a.length
          · exact hl j (h2 j hj hjn)
          · exact getD_big (by omega)) c
        dsimp only [sblock, sthen]
        (refine ⟨fun id => by simp, ?_⟩; conv => { lhs; cbv })
        rw [e]
        subst_vars; simp (disch := omega) only [obs_nil_iff, obs_cons_iff, s_ofNat, s_plus, s_len, s_rd, s_set, s_eql, s_neq, s_lss, s_leq, s_gtr, s_geq, s_not, s_and, s_beq, s_add, s_sub, s_mul, s_wrap, s_diff, s_max, s_min, s_quo, s_rem, s_quo32, s_rem32, s_quo64, s_rem64, s_zerosI, s_cat, wi, wrap_u32', wrap_u64', wrap_u8', decide_eq_true_eq, decide_eq_false_iff_not, beq_iff_eq, beq_eq_false_iff_ne, bne_iff_ne, bne_eq_false_iff_eq, Bool.not_eq_true', Bool.not_eq_false', ne_eq, nc0, nc1, nc4, nc8, Int.toNat_natCast, Int.cast_ofNat_Int, Int.ofNat_eq_natCast, and_true, true_and, s_subL, s_shr32, s_shl32, s_or32]
  · rintro hp ⟨rfl, hl⟩
    dsimp only [sblock, sthen]
    (refine AWP.seq (AWP.go k 100 [] ?_); (conv => { arg 1; cbv }); refine ⟨?_, ?_⟩; rotate_left; (try dsimp only [sthen, sblock]); rotate_right; (try exact obs_nil))
    (refine AWP.go k 100 [] ?_; (conv => { arg 1; cbv }); refine ⟨?_, ?_⟩; rotate_left; (try dsimp only [sthen, sblock]); rotate_right; (try exact obs_nil))
    (refine ⟨fun id => by simp, ?_⟩; conv => { lhs; cbv })
    have e : biV a = 0 := by
      have : V (4294967296 : Nat) a = 0 := by
        have := pre_zero_of (b := (4294967296 : Nat)) (a := a) (i := 0) (k := a.length) (Nat.zero_le _) fun j _ => by
          by_cases hjn : j < a.length
          · exact hl j (mem_downL.2 hjn)
          · exact getD_big (by omega)
        exact this
      unfold biV; rw [this]; rfl
    rw [e]
    subst_vars
    rfl
theorem h_bits : Holds Try.prog 20 (gS_Ip biV sz1) := holds_S_Ip fun a ha hp => w_bits _ rfl _ rfl ⟨h_down, h_len32, trivial⟩ a ha (of_decide_eq_true hp)
end Go.Proofs.SX

namespace Go.Proofs.SX
open Go Go.Proofs
set_option maxRecDepth 100000
set_option linter.unusedVariables false
set_option linter.unusedSimpArgs false
def cmV (m n : Nat) : Int := if m < n then -1 else if n < m then 1 else 0
def cmW (a b : LI) : Int := cmV (V (4294967296 : Nat) a) (V (4294967296 : Nat) b)
theorem cmV_lt {m n : Nat} (h : m < n) : cmV m n = -1 := if_pos h
theorem cmV_gt {m n : Nat} (h : n < m) : cmV m n = 1 := by unfold cmV; rw [if_neg (by omega), if_pos h]
theorem cmV_eq {m n : Nat} (h : m = n) : cmV m n = 0 := by unfold cmV; rw [if_neg (by omega), if_neg (by omega)]
theorem pre_cmp {b : Nat} {x y : LI} (hx : Dg b x) {i : Nat} (hi : x.getD i 0 < y.getD i 0) : ∀ {k}, i < k → (∀ j, i < j → j < k → x.getD j 0 = y.getD j 0) → pre b x k < pre b y k := by
  intro k hk h
  obtain ⟨d, rfl⟩ := Nat.exists_eq_add_of_le hk
  clear hk
  induction d with
  | zero =>
    rw [Nat.add_zero]; show pre b x (i + 1) < pre b y (i + 1); rw [pre_succ, pre_succ]
    have h1 := pre_lt hx i
    have h2 := hx i
    have h3 : ((x.getD i 0).toNat + 1) * b ^ i ≤ (y.getD i 0).toNat * b ^ i := Nat.mul_le_mul_right _ (by omega)
    rw [Nat.add_mul, Nat.one_mul] at h3
    omega
  | succ d ih =>
    have := ih fun j h1 h2 => h j h1 (by omega)
    rw [← Nat.add_assoc, pre_succ, pre_succ, h (i.succ + d) (by omega) (by omega)]
    omega
theorem digs_short {b m n : Nat} (hb : 2 ≤ b) (h : (digs b m).length < (digs b n).length) : m < n := by
  have h1 := lt_of_digs_len hb (Nat.le_refl (digs b m).length)
  have h2 : ¬ n < b ^ (digs b m).length := fun h' => by have := digs_len hb h'; omega
  omega
theorem w_cmp (A : Ar) (hA : A = stdAr) (tr : LI → LI) (htr : tr = trW) (hG : allHold Try.prog [(44, gS_S tr), (48, gDown 70)])
    (a b : LI) (ha : Nm .u32 a) (hb : Nm .u32 b) : FCall Try.prog 15 [.sli .u32 a, .sli .u32 b] (.int .i64 (cmW a b)) := by
  have k := ok_of hA hG
  have ex : tr a = digs (4294967296 : Nat) (V (4294967296 : Nat) a) := by rw [htr]; rfl
  have ey : tr b = digs (4294967296 : Nat) (V (4294967296 : Nat) b) := by rw [htr]; rfl
  have dx : Dg (4294967296 : Nat) (tr a) := by rw [ex]; exact Dg.digs (by decide) _
  have dy : Dg (4294967296 : Nat) (tr b) := by rw [ey]; exact Dg.digs (by decide) _
  have vx : V (4294967296 : Nat) (tr a) = V (4294967296 : Nat) a := by rw [ex]; exact V_digs (by decide) _
  have vy : V (4294967296 : Nat) (tr b) = V (4294967296 : Nat) b := by rw [ey]; exact V_digs (by decide) _
  have sl : (tr a).length < (tr b).length → cmW a b = -1 := fun h => cmV_lt (digs_short (b := (4294967296 : Nat)) (by decide) (by rw [← ex, ← ey]; exact h))
  have sg : (tr b).length < (tr a).length → cmW a b = 1 := fun h => cmV_gt (digs_short (b := (4294967296 : Nat)) (by decide) (by rw [← ex, ← ey]; exact h))
  refine FCall.of_body k (fn := Try.f15) rfl rfl rfl rfl (fun _ => ?_)
  (refine AWP.seq (AWP.go k 100 [] ?_); (conv => { arg 1; cbv }); refine ⟨?_, ?_⟩; rotate_left; (try dsimp only [sthen, sblock]); rotate_right; (try exact obs_nil))
  (refine AWP.seq (AWP.go k 100 [] ?_); (conv => { arg 1; cbv }); refine ⟨?_, ?_⟩; rotate_left; (try dsimp only [sthen, sblock]); rotate_right; (try exact obs_nil))
  generalize tr a = x at *
  generalize tr b = y at *
  by_cases c1 : x.length < y.length
  · (refine AWP.seq (AWP.go k 100 [true] ?_); (conv => { arg 1; cbv }); refine ⟨?_, ?_⟩; rotate_left; (try dsimp only [sthen, sblock]); rotate_right; (try exact obs_nil))
    · (subst_vars; simp (disch := omega) only [obs_nil_iff, obs_cons_iff, s_ofNat, s_plus, s_len, s_rd, s_set, s_eql, s_neq, s_lss, s_leq, s_gtr, s_geq, s_not, s_and, s_beq, s_add, s_sub, s_mul, s_wrap, s_diff, s_max, s_min, s_quo, s_rem, s_quo32, s_rem32, s_quo64, s_rem64, s_zerosI, s_cat, wi, wrap_u32', wrap_u64', wrap_u8', decide_eq_true_eq, decide_eq_false_iff_not, beq_iff_eq, beq_eq_false_iff_ne, bne_iff_ne, bne_eq_false_iff_eq, Bool.not_eq_true', Bool.not_eq_false', ne_eq, nc0, nc1, nc4, nc8, Int.toNat_natCast, Int.cast_ofNat_Int, Int.ofNat_eq_natCast, and_true, true_and, s_subL, s_shr32, s_shl32, s_or32]; (repeat' apply And.intro) <;> first | trivial | omega)
    (refine ⟨fun id => by simp, ?_⟩; conv => { lhs; cbv })
    rw [sl c1]; rfl
  by_cases c2 : y.length < x.length
  · (refine AWP.seq (AWP.go k 100 [false, true] ?_); (conv => { arg 1; cbv }); refine ⟨?_, ?_⟩; rotate_left; (try dsimp only [sthen, sblock]); rotate_right; (try exact obs_nil))
    · (subst_vars; simp (disch := omega) only [obs_nil_iff, obs_cons_iff, s_ofNat, s_plus, s_len, s_rd, s_set, s_eql, s_neq, s_lss, s_leq, s_gtr, s_geq, s_not, s_and, s_beq, s_add, s_sub, s_mul, s_wrap, s_diff, s_max, s_min, s_quo, s_rem, s_quo32, s_rem32, s_quo64, s_rem64, s_zerosI, s_cat, wi, wrap_u32', wrap_u64', wrap_u8', decide_eq_true_eq, decide_eq_false_iff_not, beq_iff_eq, beq_eq_false_iff_ne, bne_iff_ne, bne_eq_false_iff_eq, Bool.not_eq_true', Bool.not_eq_false', ne_eq, nc0, nc1, nc4, nc8, Int.toNat_natCast, Int.cast_ofNat_Int, Int.ofNat_eq_natCast, and_true, true_and, s_subL, s_shr32, s_shl32, s_or32]; (repeat' apply And.intro) <;> first | trivial | omega)
    (refine ⟨fun id => by simp, ?_⟩; conv => { lhs; cbv })
    rw [sg c2]; subst_vars; rfl
  (refine AWP.seq (AWP.go k 100 [false, false] ?_); (conv => { arg 1; cbv }); refine ⟨?_, ?_⟩; rotate_left; (try dsimp only [sthen, sblock]); rotate_right; (try exact obs_nil))
  · (subst_vars; simp (disch := omega) only [obs_nil_iff, obs_cons_iff, s_ofNat, s_plus, s_len, s_rd, s_set, s_eql, s_neq, s_lss, s_leq, s_gtr, s_geq, s_not, s_and, s_beq, s_add, s_sub, s_mul, s_wrap, s_diff, s_max, s_min, s_quo, s_rem, s_quo32, s_rem32, s_quo64, s_rem64, s_zerosI, s_cat, wi, wrap_u32', wrap_u64', wrap_u8', decide_eq_true_eq, decide_eq_false_iff_not, beq_iff_eq, beq_eq_false_iff_ne, bne_iff_ne, bne_eq_false_iff_eq, Bool.not_eq_true', Bool.not_eq_false', ne_eq, nc0, nc1, nc4, nc8, Int.toNat_natCast, Int.cast_ofNat_Int, Int.ofNat_eq_natCast, and_true, true_and, s_subL, s_shr32, s_shl32, s_or32]; (repeat' apply And.intro) <;> first | trivial | omega)
  refine AWP.seq ?_
  (refine AWP.seq (AWP.go k 100 [] ?_); (conv => { arg 1; cbv }); refine ⟨?_, ?_⟩; rotate_left; (try dsimp only [sthen, sblock]); rotate_right; (try exact obs_nil))
  refine AWP.block ?_
  refine AWP.range k rfl (by decide) h_down1 (by decide) (by simp) (by simp) (by decide) ⟨_, _, _, _, rfl, ⟨rfl, rfl, rfl⟩, ⟨rfl, rfl, rfl⟩⟩ rfl (fun l hp => hp = [.cells [.sli .u32 y], .cells [.lit .i64 0]] ∧ ∀ j ∈ l, x.getD j 0 = y.getD j 0) ⟨rfl, fun _ h => by cases h⟩ ?_ ?_
  · rintro hr l i hp hi ⟨rfl, hl⟩
    have pc := pre_cmp (i := i) (k := x.length) dx (y := y)
    have pd := pre_cmp (i := i) (k := x.length) dy (y := x)
    generalize hw : x.getD i 0 = w at pc pd ⊢
    have hyi : stdAr.rd y (Int.ofNat i) = y.getD i 0 := rfl
    have up : l ++ [i] <+: downL x.length → ∀ j, i < j → j < x.length → x.getD j 0 = y.getD j 0 := fun hp j h1 h2 => hl j ((down_pre hp).2 j h1 h2)
    by_cases c3 : w < y.getD i 0
    · (refine RoundOk.go 100 [true] ?_; (conv => { arg 1; cbv }); refine ⟨?_, ?_, ?_⟩; rotate_left; (focus (repeat' (first | exact trivial | exact (fun h => h) | (intro h; cases h; done) | refine ⟨?_, ?_⟩))); rotate_left; (try exact obs_nil))
      · (subst_vars; simp (disch := omega) only [obs_nil_iff, obs_cons_iff, s_ofNat, s_plus, s_len, s_rd, s_set, s_eql, s_neq, s_lss, s_leq, s_gtr, s_geq, s_not, s_and, s_beq, s_add, s_sub, s_mul, s_wrap, s_diff, s_max, s_min, s_quo, s_rem, s_quo32, s_rem32, s_quo64, s_rem64, s_zerosI, s_cat, wi, wrap_u32', wrap_u64', wrap_u8', decide_eq_true_eq, decide_eq_false_iff_not, beq_iff_eq, beq_eq_false_iff_ne, bne_iff_ne, bne_eq_false_iff_eq, Bool.not_eq_true', Bool.not_eq_false', ne_eq, nc0, nc1, nc4, nc8, Int.toNat_natCast, Int.cast_ofNat_Int, Int.ofNat_eq_natCast, and_true, true_and, s_subL, s_shr32, s_shl32, s_or32]; (repeat' apply And.intro) <;> first | trivial | omega)
      · intro hp
        dsimp only [sblock, sthen]
        (refine ⟨fun id => by simp, ?_⟩; conv => { lhs; cbv })
        rw [cmW, cmV_lt]
        · rfl
        have := pc c3 hi (up hp)
        rw [pre_ge (Nat.le_refl _), pre_ge (by omega), vx, vy] at this
        exact this
    by_cases c4 : y.getD i 0 < w
    · (refine RoundOk.go 100 [false, true] ?_; (conv => { arg 1; cbv }); refine ⟨?_, ?_, ?_⟩; rotate_left; (focus (repeat' (first | exact trivial | exact (fun h => h) | (intro h; cases h; done) | refine ⟨?_, ?_⟩))); rotate_left; (try exact obs_nil))
      · (subst_vars; simp (disch := omega) only [obs_nil_iff, obs_cons_iff, s_ofNat, s_plus, s_len, s_rd, s_set, s_eql, s_neq, s_lss, s_leq, s_gtr, s_geq, s_not, s_and, s_beq, s_add, s_sub, s_mul, s_wrap, s_diff, s_max, s_min, s_quo, s_rem, s_quo32, s_rem32, s_quo64, s_rem64, s_zerosI, s_cat, wi, wrap_u32', wrap_u64', wrap_u8', decide_eq_true_eq, decide_eq_false_iff_not, beq_iff_eq, beq_eq_false_iff_ne, bne_iff_ne, bne_eq_false_iff_eq, Bool.not_eq_true', Bool.not_eq_false', ne_eq, nc0, nc1, nc4, nc8, Int.toNat_natCast, Int.cast_ofNat_Int, Int.ofNat_eq_natCast, and_true, true_and, s_subL, s_shr32, s_shl32, s_or32]; (repeat' apply And.intro) <;> first | trivial | omega)
      · intro hp
        dsimp only [sblock, sthen]
        (refine ⟨fun id => by simp, ?_⟩; conv => { lhs; cbv })
        rw [cmW, cmV_gt]
        · subst_vars; rfl
        have := pd c4 hi (fun j h1 h2 => (up hp j h1 h2).symm)
        rw [pre_ge (Nat.le_refl _), pre_ge (by omega), vx, vy] at this
        exact this
    · (refine RoundOk.go 100 [false, false] ?_; (conv => { arg 1; cbv }); refine ⟨?_, ?_, ?_⟩; rotate_left; (focus (repeat' (first | exact trivial | exact (fun h => h) | (intro h; cases h; done) | refine ⟨?_, ?_⟩))); rotate_left; (try exact obs_nil))
      · (subst_vars; simp (disch := omega) only [obs_nil_iff, obs_cons_iff, s_ofNat, s_plus, s_len, s_rd, s_set, s_eql, s_neq, s_lss, s_leq, s_gtr, s_geq, s_not, s_and, s_beq, s_add, s_sub, s_mul, s_wrap, s_diff, s_max, s_min, s_quo, s_rem, s_quo32, s_rem32, s_quo64, s_rem64, s_zerosI, s_cat, wi, wrap_u32', wrap_u64', wrap_u8', decide_eq_true_eq, decide_eq_false_iff_not, beq_iff_eq, beq_eq_false_iff_ne, bne_iff_ne, bne_eq_false_iff_eq, Bool.not_eq_true', Bool.not_eq_false', ne_eq, nc0, nc1, nc4, nc8, Int.toNat_natCast, Int.cast_ofNat_Int, Int.ofNat_eq_natCast, and_true, true_and, s_subL, s_shr32, s_shl32, s_or32]; (repeat' apply And.intro) <;> first | trivial | omega)
      · refine ⟨rfl, fun j hj => ?_⟩
        rcases List.mem_append.1 hj with h | h
        · exact hl j h
        · rw [List.mem_singleton.1 h, hw]; omega
  · rintro hp ⟨rfl, hl⟩
    dsimp only [sblock, sthen]
    (refine AWP.seq (AWP.go k 100 [] ?_); (conv => { arg 1; cbv }); refine ⟨?_, ?_⟩; rotate_left; (try dsimp only [sthen, sblock]); rotate_right; (try exact obs_nil))
    (refine AWP.go k 100 [] ?_; (conv => { arg 1; cbv }); refine ⟨?_, ?_⟩; rotate_left; (try dsimp only [sthen, sblock]); rotate_right; (try exact obs_nil))
    (refine ⟨fun id => by simp, ?_⟩; conv => { lhs; cbv })
    rw [cmW, cmV_eq]
    · subst_vars; rfl
    rw [← vx, ← vy]
    show pre (4294967296 : Nat) x x.length = pre (4294967296 : Nat) y y.length
    rw [show y.length = x.length by omega]
    exact pre_congr fun j hj => hl j (mem_downL.2 hj)
def trueP2 (a b : LI) : Bool := true
theorem h_cmp : Holds Try.prog 15 (gSS_Ip cmW trueP2) := holds_SS_Ip fun a b ha hb _ => w_cmp _ rfl _ rfl ⟨h_trim, h_down, trivial⟩ a b ha hb
end Go.Proofs.SX
