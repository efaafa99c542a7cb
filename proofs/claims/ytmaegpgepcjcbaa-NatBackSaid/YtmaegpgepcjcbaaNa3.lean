/- The walk: nat.lessen, nat.back: they turn their first argument's words. Conditions: none. -/
import Derived.Test.YtmaegpgepcjcbaaNa2
set_option linter.all false
namespace Go.Proofs.SX
open Go Go.Proofs
set_option maxRecDepth 100000
set_option linter.unusedVariables false
set_option linter.unusedSimpArgs false
theorem ok_m {l : List (FuncId × (List AV → Option (AV × Ob)))} {A : Ar} (hA : A = stdAr) (hG : allHold Try.prog l) : COk Try.prog ⟨true, A, tyTab eTys, cTab l⟩ := ⟨by kernel_rfl, hA, eTys_ok, cs_ok hG⟩
theorem rd_win {xs : LI} {lo len : Int} (h : 0 ≤ lo ∧ 0 ≤ len ∧ lo + len ≤ xs.length) {w : LI} {i : Nat} (hi : i < w.length) : (putW xs lo len w).getD (lo + (i : Int)).toNat 0 = w.getD i 0 := by
  rw [show (lo + (i : Int)).toNat = lo.toNat + i by omega]; exact putW_getD h hi
theorem set_win {xs : LI} {lo len : Int} (h : 0 ≤ lo ∧ 0 ≤ len ∧ lo + len ≤ xs.length) {w : LI} {i : Nat} {v : Int} (hi : i < w.length) : (putW xs lo len w).set (lo + (i : Int)).toNat v = putW xs lo len (w.set i v) := by
  rw [show (lo + (i : Int)).toNat = lo.toNat + i by omega]; exact putW_set h hi
/-- What becomes of the row. -/
def leF (xs : LI) (lo len : Int) (b : LI) : LI := putW xs lo len (fx (4294967296 : Nat) len.toNat (V (4294967296 : Nat) (win xs lo len) - V (4294967296 : Nat) b))
def leP (xs : LI) (lo len : Int) (b : LI) : Bool := decide (V (4294967296 : Nat) b ≤ V (4294967296 : Nat) (win xs lo len))
def gM_S (f : LI → Int → Int → LI → LI) (p : LI → Int → Int → LI → Bool) : IntKind → List Int → Int → Int → List AV → Option (AV × List Int × Ob) := fun k xs lo len l =>
  match k, l with | .u32, [.sli .u32 b] => some (.tup [], f xs lo len b, [(p xs lo len b, true)]) | _, _ => none
theorem holdsM_S {P : Program} {f : FuncId} {F : LI → Int → Int → LI → LI} {p : LI → Int → Int → LI → Bool} (h : ∀ xs lo len b, Nm .u32 b → p xs lo len b = true → MCall P f .u32 xs lo len [.sli .u32 b] (.tup []) (F xs lo len b)) : HoldsM P f (gM_S F p) := by
  intro k xs lo len args r xs' ob hg ho
  unfold gM_S at hg
  split at hg
  · rename_i b
    simp only [Option.some.injEq, Prod.mk.injEq] at hg
    obtain ⟨rfl, rfl, rfl⟩ := hg
    intro b0 w v0 vs rest ty h1 h2 h3 h4
    have hk := (known_sli ⟨_, _, _, h4⟩).1
    exact h xs lo len b hk (ho _ (List.mem_singleton.2 rfl)) b0 w v0 vs rest ty h1 h2 h3 h4
  · simp at hg
theorem sub_step {X Y Z c c' x y d P : Nat} (h : X + Y = Z + c * P) (e : d + y + c = x + c' * 4294967296) : (X + d * P) + (Y + y * P) = (Z + x * P) + c' * (P * 4294967296) := by
  have e2 : (d + y + c) * P = (x + c' * 4294967296) * P := by rw [e]
  simp only [Nat.add_mul] at e2
  rw [Nat.mul_assoc, Nat.mul_comm 4294967296 P] at e2
  omega
theorem w_lessen (A : Ar) (hA : A = stdAr) (wd : LI → Int → Int) (hwd : wd = rdW) (np : LI → Int → Bool) (hnp : np = nnP) (sb bo : Int → Int → Int → Int) (hsb : sb = sb32) (hbo : bo = bo32) (c1 : Int → Int → Int → Bool) (hc1 : c1 = c1P)
    (hG : allHold Try.prog [(50, gSI_Up A wd np), (68, gUUU_UUp A sb bo c1)]) (xs : LI) (lo len : Int) (b : LI) (hb : Nm .u32 b) (hp : V (4294967296 : Nat) b ≤ V (4294967296 : Nat) (win xs lo len)) :
    MCall Try.prog 43 .u32 xs lo len [.sli .u32 b] (.tup []) (leF xs lo len b) := by
  have k := ok_m hA hG
  have db := nm32 hb
  refine MCall.known fun hin hlm hr0 => ?_
  refine MCall.of_body k (fn := Try.f43) rfl rfl rfl rfl (putW_len hin fx_len) (fun hr hsl _ => ?_)
  have dx := rgl32 hr
  have hx := win_len hin
  have dX := dx.win (by decide) lo len
  unfold leF
  have put_eq : ∀ {x}, x = win xs lo len → putW xs lo len x = xs := fun h => by rw [h, put_win]
  generalize win xs lo len = x at *
  (refine AWP.seq (AWP.go k 100 [] ?_); (conv => { arg 1; cbv }); refine ⟨?_, ?_⟩; rotate_left; (try dsimp only [sthen, sblock]); rotate_right; (try exact obs_nil))
  (refine AWP.seq (AWP.go k 100 [] ?_); (conv => { arg 1; cbv }); refine ⟨?_, ?_⟩; rotate_left; (try dsimp only [sthen, sblock]); rotate_right; (try exact obs_nil))
  refine AWP.block ?_
  obtain ⟨N, hN⟩ : ∃ N : Nat, len = N := ⟨len.toNat, by omega⟩
  obtain ⟨pw, hpw⟩ : ∃ pw : LI → LI, pw = putW xs lo len := ⟨_, rfl⟩
  refine AWP.loopP (fun y : Nat × Nat × LI => ⟨mkF [(0, .osl 0 lo len), (1, .sli .u32 b), (4, .int .u32 y.2.1), (7, .int .i64 len), (8, .int .i64 y.1)] 27 0, [.row .u32 (pw y.2.2)]⟩)
    (fun y => y.1 ≤ N ∧ y.2.1 ≤ 1 ∧ y.2.2.length = N ∧ Dg (4294967296 : Nat) y.2.2 ∧ (∀ j, y.1 ≤ j → y.2.2.getD j 0 = x.getD j 0) ∧ pre (4294967296 : Nat) y.2.2 y.1 + pre (4294967296 : Nat) b y.1 = pre (4294967296 : Nat) x y.1 + y.2.1 * (4294967296 : Nat) ^ y.1) (fun y => N - y.1) (0, 0, x) ?_ ?_ ?_
  · rw [hpw, put_eq rfl]
    subst_vars
    (refine ⟨?_, ?_, rfl⟩ <;> repeat' (first | exact .nil | exact .any _ | exact .gone _ | exact .same _ | exact .lit _ _ | exact .nil _ | refine .cons ?_ ?_ | exact AvLe.int_eq (by first | rfl | (simp only [Int.ofNat_eq_natCast]; omega) | omega) | exact AvLe.lit_eq (by first | rfl | (simp only [Int.ofNat_eq_natCast]; omega) | omega) | exact AvLe.osl_eq (by first | rfl | (simp only [Int.ofNat_eq_natCast]; omega) | omega) (by first | rfl | (simp only [Int.ofNat_eq_natCast]; omega) | omega | (simp; done) | (simp; omega)) | refine BlLe.row_eq ?_))
  · dsimp only
    refine ⟨Nat.zero_le _, Nat.zero_le _, by omega, dX, fun _ _ => rfl, rfl⟩
  rintro ⟨i, c, w⟩ ⟨h1, h2, h3, h4, h6, h5⟩
  dsimp only at h1 h2 h3 h4 h5 h6
  have ra := h4 i
  have rb := db i
  have hB : 0 ≤ bo32 (w.getD i 0) (b.getD i 0) c ∧ bo32 (w.getD i 0) (b.getD i 0) c ≤ 1 := by unfold bo32; split <;> omega
  have hS : 0 ≤ sb32 (w.getD i 0) (b.getD i 0) c ∧ sb32 (w.getD i 0) (b.getD i 0) c < (4294967296 : Nat) := by unfold sb32; omega
  by_cases d : i < N
  · (refine AWP.seq (AWP.go k 100 [] ?_); (conv => { arg 1; cbv }); refine ⟨?_, ?_⟩; rotate_left; (try dsimp only [sthen, sblock]); rotate_right; (try exact obs_nil))
    (refine AWP.seq (AWP.go k 100 [true] ?_); (conv => { arg 1; cbv }); refine ⟨?_, ?_⟩; rotate_left; (try dsimp only [sthen, sblock]); rotate_right; (try exact obs_nil))
    · (subst_vars; simp (disch := omega) only [obs_nil_iff, obs_cons_iff, s_ofNat, s_plus, s_len, s_rd, s_set, s_eql, s_neq, s_lss, s_leq, s_gtr, s_geq, s_not, s_and, s_beq, s_add, s_sub, s_mul, s_wrap, s_diff, s_max, s_min, s_quo, s_rem, s_quo32, s_rem32, s_quo64, s_rem64, s_zerosI, s_cat, wi, wrap_u32', wrap_u64', wrap_u8', decide_eq_true_eq, decide_eq_false_iff_not, beq_iff_eq, beq_eq_false_iff_ne, bne_iff_ne, bne_eq_false_iff_eq, Bool.not_eq_true', Bool.not_eq_false', ne_eq, nc0, nc1, nc4, nc8, Int.toNat_natCast, Int.cast_ofNat_Int, Int.ofNat_eq_natCast, and_true, true_and, s_subL, s_shr32, s_shl32, s_or32]; (repeat' apply And.intro) <;> first | trivial | omega)
    (refine AWP.seq (AWP.go k 100 [] ?_); (conv => { arg 1; cbv }); refine ⟨?_, ?_⟩; rotate_left; (try dsimp only [sthen, sblock]); rotate_right; (try exact obs_nil))
    · subst_vars
      simp (disch := omega) only [nnP, c1P, obs_nil_iff, obs_cons_iff, s_ofNat, s_plus, s_len, s_rd, s_set, s_eql, s_neq, s_lss, s_leq, s_gtr, s_geq, s_not, s_and, s_beq, s_add, s_sub, s_mul, s_wrap, s_diff, s_max, s_min, s_quo, s_rem, s_quo32, s_rem32, s_quo64, s_rem64, s_zerosI, s_cat, wi, wrap_u32', wrap_u64', wrap_u8', decide_eq_true_eq, decide_eq_false_iff_not, beq_iff_eq, beq_eq_false_iff_ne, bne_iff_ne, bne_eq_false_iff_eq, Bool.not_eq_true', Bool.not_eq_false', ne_eq, nc0, nc1, nc4, nc8, Int.toNat_natCast, Int.cast_ofNat_Int, Int.ofNat_eq_natCast, and_true, true_and, s_subL, s_shr32, s_shl32, s_or32]
      omega
    (refine AWP.go k 100 [] ?_; (conv => { arg 1; cbv }); refine ⟨?_, ?_⟩; rotate_left; (try dsimp only [sthen, sblock]); rotate_right; (try exact obs_nil))
    apply handed.mk (i + 1, (bo32 (w.getD i 0) (b.getD i 0) c).toNat, w.set i (sb32 (w.getD i 0) (b.getD i 0) c))
    · subst hpw hA hwd hnp hsb hbo hc1
      simp (disch := omega) only [rdW, rd_win hin (show i < w.length by omega), set_win hin (show i < w.length by omega), obs_nil_iff, obs_cons_iff, s_ofNat, s_plus, s_len, s_rd, s_set, s_eql, s_neq, s_lss, s_leq, s_gtr, s_geq, s_not, s_and, s_beq, s_add, s_sub, s_mul, s_wrap, s_diff, s_max, s_min, s_quo, s_rem, s_quo32, s_rem32, s_quo64, s_rem64, s_zerosI, s_cat, wi, wrap_u32', wrap_u64', wrap_u8', decide_eq_true_eq, decide_eq_false_iff_not, beq_iff_eq, beq_eq_false_iff_ne, bne_iff_ne, bne_eq_false_iff_eq, Bool.not_eq_true', Bool.not_eq_false', ne_eq, nc0, nc1, nc4, nc8, Int.toNat_natCast, Int.cast_ofNat_Int, Int.ofNat_eq_natCast, and_true, true_and, s_subL, s_shr32, s_shl32, s_or32]
      (refine ⟨?_, ?_, rfl⟩ <;> repeat' (first | exact .nil | exact .any _ | exact .gone _ | exact .same _ | exact .lit _ _ | exact .nil _ | refine .cons ?_ ?_ | exact AvLe.int_eq (by first | rfl | (simp only [Int.ofNat_eq_natCast]; omega) | omega) | exact AvLe.lit_eq (by first | rfl | (simp only [Int.ofNat_eq_natCast]; omega) | omega) | exact AvLe.osl_eq (by first | rfl | (simp only [Int.ofNat_eq_natCast]; omega) | omega) (by first | rfl | (simp only [Int.ofNat_eq_natCast]; omega) | omega | (simp; done) | (simp; omega)) | refine BlLe.row_eq ?_))
    · dsimp only
      refine ⟨by omega, by omega, by simp [h3], h4.set hS, fun j hj => ?_, ?_⟩
      · rw [getD_set (by omega), if_neg (by omega)]; exact h6 j (by omega)
      · rw [pre_succ, pre_succ, pre_succ, pre_set (Nat.le_refl _), getD_set (by omega), if_pos rfl, Nat.pow_succ]
        refine sub_step h5 ?_
        rw [← h6 i (Nat.le_refl _)]
        unfold sb32 bo32
        split <;> omega
    · dsimp only; omega
  · (refine AWP.seq (AWP.go k 100 [] ?_); (conv => { arg 1; cbv }); refine ⟨?_, ?_⟩; rotate_left; (try dsimp only [sthen, sblock]); rotate_right; (try exact obs_nil))
    (refine AWP.seq (AWP.go k 100 [false] ?_); (conv => { arg 1; cbv }); refine ⟨?_, ?_⟩; rotate_left; (try dsimp only [sthen, sblock]); rotate_right; (try exact obs_nil))
    · (subst_vars; simp (disch := omega) only [obs_nil_iff, obs_cons_iff, s_ofNat, s_plus, s_len, s_rd, s_set, s_eql, s_neq, s_lss, s_leq, s_gtr, s_geq, s_not, s_and, s_beq, s_add, s_sub, s_mul, s_wrap, s_diff, s_max, s_min, s_quo, s_rem, s_quo32, s_rem32, s_quo64, s_rem64, s_zerosI, s_cat, wi, wrap_u32', wrap_u64', wrap_u8', decide_eq_true_eq, decide_eq_false_iff_not, beq_iff_eq, beq_eq_false_iff_ne, bne_iff_ne, bne_eq_false_iff_eq, Bool.not_eq_true', Bool.not_eq_false', ne_eq, nc0, nc1, nc4, nc8, Int.toNat_natCast, Int.cast_ofNat_Int, Int.ofNat_eq_natCast, and_true, true_and, s_subL, s_shr32, s_shl32, s_or32]; (repeat' apply And.intro) <;> first | trivial | omega)
    (dsimp only [handed, handedR, sblock, sthen]; rw [if_pos rfl])
    have hi : i = N := by omega
    subst hi
    refine ⟨fun id => by simp, ?_, ?_⟩
    · conv => { lhs; cbv }
    · show Blk.row .u32 (pw w) = _
      rw [hpw]
      congr 2
      rw [hN, Int.toNat_natCast, ← h3]
      refine fx_of (by decide) h4 ?_
      have e1 : pre (4294967296 : Nat) w i = V (4294967296 : Nat) w := pre_ge (by omega)
      have e2 : pre (4294967296 : Nat) x i = V (4294967296 : Nat) x := pre_ge (by omega)
      have e3 : pre (4294967296 : Nat) b i = V (4294967296 : Nat) b := by
        rw [pre_mod db]
        have := V_lt dX
        exact Nat.mod_eq_of_lt (by rw [show i = x.length by omega]; omega)
      have e4 := V_lt h4
      rw [h3] at e4 ⊢
      rw [e1, e2, e3] at h5
      have e5 := V_lt dX
      rw [show x.length = i by omega] at e5
      obtain rfl : c = 0 := by
        apply Classical.byContradiction; intro hc
        obtain rfl : c = 1 := by omega
        omega
      rw [Nat.mod_eq_of_lt (by omega)]
      omega
theorem h_lessen : HoldsM Try.prog 43 (gM_S leF leP) := holdsM_S fun xs lo len b hb hp => w_lessen _ rfl _ rfl _ rfl _ _ rfl rfl _ rfl ⟨h_word, h_sub32, trivial⟩ xs lo len b hb (of_decide_eq_true hp)
end Go.Proofs.SX

namespace Go.Proofs.SX
open Go Go.Proofs
set_option maxRecDepth 100000
set_option linter.unusedVariables false
set_option linter.unusedSimpArgs false
def sbW (a b : LI) : LI := if V (4294967296 : Nat) a < V (4294967296 : Nat) b then [] else W (V (4294967296 : Nat) a - V (4294967296 : Nat) b)
def sbE (a b : LI) : Int := if V (4294967296 : Nat) a < V (4294967296 : Nat) b then 1 else 0
theorem w_sub (A : Ar) (hA : A = stdAr) (cm : LI → LI → Int) (hcm : cm = cmW) (tp : LI → LI → Bool) (htp : tp = trueP2) (tr : LI → LI) (htr : tr = trW) (le : LI → Int → Int → LI → LI) (hle : le = leF) (lp : LI → Int → Int → LI → Bool) (hlp : lp = leP)
    (hG : allCon Try.prog [(15, .fn (gSS_Ip cm tp)), (43, .mut (gM_S le lp)), (44, .fn (gS_S tr))]) (a b : LI) (ha : Nm .u32 a) (hb : Nm .u32 b) (la : a.length ≤ 1048576) :
    FCall Try.prog 13 [.sli .u32 a, .sli .u32 b] (.tup [.sli .u32 (sbW a b), .int .i64 (sbE a b)]) := by
  have k := ok_con (na := false) hA hG
  by_cases c : V (4294967296 : Nat) a < V (4294967296 : Nat) b
  · have e : cmW a b = -1 := cmV_lt c
    rw [sbW, sbE, if_pos c, if_pos c]
    refine FCall.nil2 (k := .u8) ?_
    (refine FCall.exec k (fn := Try.f13) 100 [true] rfl rfl rfl (fun _ => ?_); (conv => { arg 1; cbv }); refine ⟨?_, ?_⟩; (try exact obs_nil))
    · subst_vars; simp (disch := omega) only [trueP2, obs_nil_iff, obs_cons_iff, s_ofNat, s_plus, s_len, s_rd, s_set, s_eql, s_neq, s_lss, s_leq, s_gtr, s_geq, s_not, s_and, s_beq, s_add, s_sub, s_mul, s_wrap, s_diff, s_max, s_min, s_quo, s_rem, s_quo32, s_rem32, s_quo64, s_rem64, s_zerosI, s_cat, wi, wrap_u32', wrap_u64', wrap_u8', decide_eq_true_eq, decide_eq_false_iff_not, beq_iff_eq, beq_eq_false_iff_ne, bne_iff_ne, bne_eq_false_iff_eq, Bool.not_eq_true', Bool.not_eq_false', ne_eq, nc0, nc1, nc4, nc8, Int.toNat_natCast, Int.cast_ofNat_Int, Int.ofNat_eq_natCast, and_true, true_and, s_subL, s_shr32, s_shl32, s_or32]; omega
    · subst_vars; rfl
  · have e : 0 ≤ cmW a b := by unfold cmW cmV; rw [if_neg c]; split <;> omega
    (refine FCall.exec k (fn := Try.f13) 100 [false] rfl rfl rfl (fun _ => ?_); (conv => { arg 1; cbv }); refine ⟨?_, ?_⟩; (try exact obs_nil))
    · subst_vars; simp (disch := omega) only [trueP2, leP, List.take_nil, List.drop_nil, List.nil_append, Int.zero_add, win_all, obs_nil_iff, obs_cons_iff, s_ofNat, s_plus, s_len, s_rd, s_set, s_eql, s_neq, s_lss, s_leq, s_gtr, s_geq, s_not, s_and, s_beq, s_add, s_sub, s_mul, s_wrap, s_diff, s_max, s_min, s_quo, s_rem, s_quo32, s_rem32, s_quo64, s_rem64, s_zerosI, s_cat, wi, wrap_u32', wrap_u64', wrap_u8', decide_eq_true_eq, decide_eq_false_iff_not, beq_iff_eq, beq_eq_false_iff_ne, bne_iff_ne, bne_eq_false_iff_eq, Bool.not_eq_true', Bool.not_eq_false', ne_eq, nc0, nc1, nc4, nc8, Int.toNat_natCast, Int.cast_ofNat_Int, Int.ofNat_eq_natCast, and_true, true_and, s_subL, s_shr32, s_shl32, s_or32]
      omega
    · rw [sbW, sbE, if_neg c, if_neg c]; subst_vars
      simp (disch := omega) only [List.take_nil, List.drop_nil, List.nil_append, Int.zero_add, leF, win_all, putW_all, obs_nil_iff, obs_cons_iff, s_ofNat, s_plus, s_len, s_rd, s_set, s_eql, s_neq, s_lss, s_leq, s_gtr, s_geq, s_not, s_and, s_beq, s_add, s_sub, s_mul, s_wrap, s_diff, s_max, s_min, s_quo, s_rem, s_quo32, s_rem32, s_quo64, s_rem64, s_zerosI, s_cat, wi, wrap_u32', wrap_u64', wrap_u8', decide_eq_true_eq, decide_eq_false_iff_not, beq_iff_eq, beq_eq_false_iff_ne, bne_iff_ne, bne_eq_false_iff_eq, Bool.not_eq_true', Bool.not_eq_false', ne_eq, nc0, nc1, nc4, nc8, Int.toNat_natCast, Int.cast_ofNat_Int, Int.ofNat_eq_natCast, and_true, true_and, s_subL, s_shr32, s_shl32, s_or32]
      congr 2
      rw [Int.toNat_zero, List.drop_zero, Nat.sub_zero, List.take_of_length_le (by rw [fx_len]; exact Nat.le_refl _), trW, V_fx]
      congr 2
      exact Nat.mod_eq_of_lt (by have := V_lt (nm32 ha); omega)
theorem h_sub : Holds Try.prog 13 (gSS_SIp sbW sbE sz2) := holds_SS_SIp fun a b ha hb hp => w_sub _ rfl _ rfl _ rfl _ rfl _ rfl _ rfl ⟨h_cmp, h_lessen, h_trim, trivial⟩ a b ha hb (of_decide_eq_true hp).1
end Go.Proofs.SX

namespace Go.Proofs.SX
open Go Go.Proofs
set_option maxRecDepth 100000
set_option linter.unusedVariables false
set_option linter.unusedSimpArgs false
def btV (a : LI) (i : Int) : Int := if i < 0 then 0 else ((V (4294967296 : Nat) a / 2 ^ i.toNat % 2 : Nat) : Int)
theorem B32_pow (k : Nat) : (4294967296 : Nat) ^ k = 2 ^ (32 * k) := by rw [Nat.pow_mul]
theorem dig32 {a : LI} (da : Dg (4294967296 : Nat) a) {j : Nat} {p r s : Nat} (hp : p = 32 * j + r) (h : r + s ≤ 32) : (a.getD j 0).toNat / 2 ^ r % 2 ^ s = V (4294967296 : Nat) a / 2 ^ p % 2 ^ s := by
  have e : (a.getD j 0).toNat = V (4294967296 : Nat) a / 2 ^ (32 * j) % 2 ^ 32 := by
    rw [getD_eq (by decide) da, Int.toNat_natCast, B32_pow]
  rw [e, dig_in h, hp]
theorem dig_none {a : LI} (da : Dg (4294967296 : Nat) a) {p s : Nat} (hp : 32 * a.length ≤ p) : V (4294967296 : Nat) a / 2 ^ p % s = 0 := by
  have h1 := V_lt da
  rw [B32_pow] at h1
  have h2 : 2 ^ (32 * a.length) ≤ 2 ^ p := Nat.pow_le_pow_right (by decide) hp
  rw [Nat.div_eq_of_lt (by omega), Nat.zero_mod]
theorem w_bit (A : Ar) (hA : A = stdAr) (a : LI) (i : Int) (ha : Nm .u32 a) (hi : Rg .i64 i) : FCall Try.prog 22 [.sli .u32 a, .int .i64 i] (.int .i64 (btV a i)) := by
  have hG : allHold Try.prog [] := trivial
  have k := ok_of hA hG
  have da := nm32 ha
  have hi := rgi.1 hi
  by_cases c : i < 0
  · (refine FCall.exec k (fn := Try.f22) 100 (List.replicate 7 true) rfl rfl rfl (fun _ => ?_); (conv => { arg 1; cbv }); refine ⟨?_, ?_⟩; (try exact obs_nil))
    · (subst_vars; simp (disch := omega) only [obs_nil_iff, obs_cons_iff, s_ofNat, s_plus, s_len, s_rd, s_set, s_eql, s_neq, s_lss, s_leq, s_gtr, s_geq, s_not, s_and, s_beq, s_add, s_sub, s_mul, s_wrap, s_diff, s_max, s_min, s_quo, s_rem, s_quo32, s_rem32, s_quo64, s_rem64, s_zerosI, s_cat, wi, wrap_u32', wrap_u64', wrap_u8', decide_eq_true_eq, decide_eq_false_iff_not, beq_iff_eq, beq_eq_false_iff_ne, bne_iff_ne, bne_eq_false_iff_eq, Bool.not_eq_true', Bool.not_eq_false', ne_eq, nc0, nc1, nc4, nc8, Int.toNat_natCast, Int.cast_ofNat_Int, Int.ofNat_eq_natCast, and_true, true_and, s_subL, s_shr32, s_shl32, s_or32]; (repeat' apply And.intro) <;> first | trivial | omega)
    · rw [btV, if_pos c]; subst_vars; rfl
  rw [btV, if_neg c]
  by_cases c2 : i / 32 < a.length
  · have dj := da (i / 32).toNat
    have e := dig32 da (j := (i / 32).toNat) (p := i.toNat) (r := (i % 32).toNat) (s := 1) (by omega) (by omega)
    have e2 := s_shr32u (x := a.getD (i / 32).toNat 0) (y := i % 32) (i % 32).toNat (by omega) dj (by omega)
    have hsh : 0 ≤ a.getD (i / 32).toNat 0 / 2 ^ (i % 32).toNat ∧ a.getD (i / 32).toNat 0 / 2 ^ (i % 32).toNat < 4294967296 :=
      ⟨Int.ediv_nonneg dj.1 (Int.pow_nonneg (by decide)), by have := Int.ediv_le_self (2 ^ (i % 32).toNat) dj.1; omega⟩
    (refine FCall.exec k (fn := Try.f22) 100 (List.replicate 6 false ++ [false]) rfl rfl rfl (fun _ => ?_); (conv => { arg 1; cbv }); refine ⟨?_, ?_⟩; (try exact obs_nil))
    · (subst_vars; simp (disch := omega) only [obs_nil_iff, obs_cons_iff, s_ofNat, s_plus, s_len, s_rd, s_set, s_eql, s_neq, s_lss, s_leq, s_gtr, s_geq, s_not, s_and, s_beq, s_add, s_sub, s_mul, s_wrap, s_diff, s_max, s_min, s_quo, s_rem, s_quo32, s_rem32, s_quo64, s_rem64, s_zerosI, s_cat, wi, wrap_u32', wrap_u64', wrap_u8', decide_eq_true_eq, decide_eq_false_iff_not, beq_iff_eq, beq_eq_false_iff_ne, bne_iff_ne, bne_eq_false_iff_eq, Bool.not_eq_true', Bool.not_eq_false', ne_eq, nc0, nc1, nc4, nc8, Int.toNat_natCast, Int.cast_ofNat_Int, Int.ofNat_eq_natCast, and_true, true_and, s_subL, s_shr32, s_shl32, s_or32]; (repeat' apply And.intro) <;> first | trivial | omega)
    · rw [← e]
      subst_vars
      simp (disch := omega) only [e2, s_and1, obs_nil_iff, obs_cons_iff, s_ofNat, s_plus, s_len, s_rd, s_set, s_eql, s_neq, s_lss, s_leq, s_gtr, s_geq, s_not, s_and, s_beq, s_add, s_sub, s_mul, s_wrap, s_diff, s_max, s_min, s_quo, s_rem, s_quo32, s_rem32, s_quo64, s_rem64, s_zerosI, s_cat, wi, wrap_u32', wrap_u64', wrap_u8', decide_eq_true_eq, decide_eq_false_iff_not, beq_iff_eq, beq_eq_false_iff_ne, bne_iff_ne, bne_eq_false_iff_eq, Bool.not_eq_true', Bool.not_eq_false', ne_eq, nc0, nc1, nc4, nc8, Int.toNat_natCast, Int.cast_ofNat_Int, Int.ofNat_eq_natCast, and_true, true_and, s_subL, s_shr32, s_shl32, s_or32]
      have : a.getD (i / 32).toNat 0 = ((a.getD (i / 32).toNat 0).toNat : Int) := by omega
      rw [this]
      congr 1
  · have e := dig_none da (p := i.toNat) (s := 2) (by omega)
    rw [e]
    (refine FCall.exec k (fn := Try.f22) 100 (List.replicate 6 false ++ [true]) rfl rfl rfl (fun _ => ?_); (conv => { arg 1; cbv }); refine ⟨?_, ?_⟩; (try exact obs_nil))
    · (subst_vars; simp (disch := omega) only [obs_nil_iff, obs_cons_iff, s_ofNat, s_plus, s_len, s_rd, s_set, s_eql, s_neq, s_lss, s_leq, s_gtr, s_geq, s_not, s_and, s_beq, s_add, s_sub, s_mul, s_wrap, s_diff, s_max, s_min, s_quo, s_rem, s_quo32, s_rem32, s_quo64, s_rem64, s_zerosI, s_cat, wi, wrap_u32', wrap_u64', wrap_u8', decide_eq_true_eq, decide_eq_false_iff_not, beq_iff_eq, beq_eq_false_iff_ne, bne_iff_ne, bne_eq_false_iff_eq, Bool.not_eq_true', Bool.not_eq_false', ne_eq, nc0, nc1, nc4, nc8, Int.toNat_natCast, Int.cast_ofNat_Int, Int.ofNat_eq_natCast, and_true, true_and, s_subL, s_shr32, s_shl32, s_or32]; (repeat' apply And.intro) <;> first | trivial | omega)
    · subst_vars; rfl
theorem h_bit : Holds Try.prog 22 (gSI_I stdAr btV) := holds_SI_I fun a i ha hi => w_bit _ rfl a i ha hi
/-- How many bytes. -/
def lgV (a : LI) : Int := (biV a + 7) / 8
theorem biV_le {a : LI} (da : Dg (4294967296 : Nat) a) : 0 ≤ biV a ∧ biV a ≤ 32 * a.length := by
  unfold biV bitLen
  split
  · omega
  · rename_i h0
    have := V_lt da
    rw [B32_pow] at this
    have := (Nat.log2_lt h0).2 this
    omega
theorem w_long (A : Ar) (hA : A = stdAr) (bi : LI → Int) (hbi : bi = biV) (s1 : LI → Bool) (hs1 : s1 = sz1) (hG : allHold Try.prog [(20, gS_Ip bi s1)]) (a : LI) (ha : Nm .u32 a) (la : a.length ≤ 1048576) : FCall Try.prog 53 [.sli .u32 a] (.int .i64 (lgV a)) := by
  have := biV_le (nm32 ha)
  (refine FCall.exec (ok_of hA hG) (fn := Try.f53) 100 [] rfl rfl rfl (fun _ => ?_); (conv => { arg 1; cbv }); refine ⟨?_, ?_⟩; (try exact obs_nil))
  · subst_vars; simp (disch := omega) only [sz1, obs_nil_iff, obs_cons_iff, s_ofNat, s_plus, s_len, s_rd, s_set, s_eql, s_neq, s_lss, s_leq, s_gtr, s_geq, s_not, s_and, s_beq, s_add, s_sub, s_mul, s_wrap, s_diff, s_max, s_min, s_quo, s_rem, s_quo32, s_rem32, s_quo64, s_rem64, s_zerosI, s_cat, wi, wrap_u32', wrap_u64', wrap_u8', decide_eq_true_eq, decide_eq_false_iff_not, beq_iff_eq, beq_eq_false_iff_ne, bne_iff_ne, bne_eq_false_iff_eq, Bool.not_eq_true', Bool.not_eq_false', ne_eq, nc0, nc1, nc4, nc8, Int.toNat_natCast, Int.cast_ofNat_Int, Int.ofNat_eq_natCast, and_true, true_and, s_subL, s_shr32, s_shl32, s_or32]; omega
  · subst_vars; simp (disch := omega) only [obs_nil_iff, obs_cons_iff, s_ofNat, s_plus, s_len, s_rd, s_set, s_eql, s_neq, s_lss, s_leq, s_gtr, s_geq, s_not, s_and, s_beq, s_add, s_sub, s_mul, s_wrap, s_diff, s_max, s_min, s_quo, s_rem, s_quo32, s_rem32, s_quo64, s_rem64, s_zerosI, s_cat, wi, wrap_u32', wrap_u64', wrap_u8', decide_eq_true_eq, decide_eq_false_iff_not, beq_iff_eq, beq_eq_false_iff_ne, bne_iff_ne, bne_eq_false_iff_eq, Bool.not_eq_true', Bool.not_eq_false', ne_eq, nc0, nc1, nc4, nc8, Int.toNat_natCast, Int.cast_ofNat_Int, Int.ofNat_eq_natCast, and_true, true_and, s_subL, s_shr32, s_shl32, s_or32]; rfl
theorem h_long : Holds Try.prog 53 (gS_Ip lgV sz1) := holds_S_Ip fun a ha hp => w_long _ rfl _ rfl _ rfl ⟨h_bits, trivial⟩ a ha (of_decide_eq_true hp)

/-- A number in so many bytes, the highest first. -/
def beV (v n : Nat) : LI := (fx 256 n v).reverse
theorem beV_len {v n : Nat} : (beV v n).length = n := by simp [beV, fx_len]
theorem getD_rev {a : LI} {j : Nat} (hj : j < a.length) : a.reverse.getD j 0 = a.getD (a.length - 1 - j) 0 := by
  rw [List.getD_eq_getElem?_getD, List.getElem?_reverse hj, ← List.getD_eq_getElem?_getD]
theorem beV_of {out : LI} {v n : Nat} (hl : out.length = n) (h : ∀ j, j < n → out.getD (n - 1 - j) 0 = ((v / 256 ^ j % 256 : Nat) : Int)) : out = beV v n := by
  refine list_ext (by rw [hl, beV_len]) fun i => ?_
  by_cases hi : i < n
  · have := h (n - 1 - i) (by omega)
    rw [show n - 1 - (n - 1 - i) = i by omega] at this
    rw [this, beV, getD_rev (by rw [fx_len]; exact hi), fx_len, fx_getD, if_pos (by omega)]
  · rw [getD_big (by omega), getD_big (by rw [beV_len]; omega)]
def laV (a : LI) (n : Int) : LI := beV (V (4294967296 : Nat) a) n.toNat
def laP (a : LI) (n : Int) : Bool := decide (0 ≤ n ∧ n ≤ 4294967296)
theorem w_lay (A : Ar) (hA : A = stdAr) (wd : LI → Int → Int) (hwd : wd = rdW) (np : LI → Int → Bool) (hnp : np = nnP) (hG : allHold Try.prog [(50, gSI_Up A wd np)])
    (a : LI) (n : Int) (ha : Nm .u32 a) (hn : 0 ≤ n ∧ n ≤ 4294967296) : FCall Try.prog 54 [.sli .u32 a, .int .i64 n] (.sli .u8 (laV a n)) := by
  have k := ok_of hA hG
  have da := nm32 ha
  obtain ⟨N, rfl⟩ := Int.eq_ofNat_of_zero_le hn.1
  refine FCall.of_body k (fn := Try.f54) rfl rfl rfl rfl (fun _ => ?_)
  (refine AWP.seq (AWP.go k 100 [] ?_); (conv => { arg 1; cbv }); refine ⟨?_, ?_⟩; rotate_left; (try dsimp only [sthen, sblock]); rotate_right; (try exact obs_nil))
  (refine AWP.seq (AWP.go k 100 [] ?_); (conv => { arg 1; cbv }); refine ⟨?_, ?_⟩; rotate_left; (try dsimp only [sthen, sblock]); rotate_right; (try exact obs_nil))
  · (subst_vars; simp (disch := omega) only [obs_nil_iff, obs_cons_iff, s_ofNat, s_plus, s_len, s_rd, s_set, s_eql, s_neq, s_lss, s_leq, s_gtr, s_geq, s_not, s_and, s_beq, s_add, s_sub, s_mul, s_wrap, s_diff, s_max, s_min, s_quo, s_rem, s_quo32, s_rem32, s_quo64, s_rem64, s_zerosI, s_cat, wi, wrap_u32', wrap_u64', wrap_u8', decide_eq_true_eq, decide_eq_false_iff_not, beq_iff_eq, beq_eq_false_iff_ne, bne_iff_ne, bne_eq_false_iff_eq, Bool.not_eq_true', Bool.not_eq_false', ne_eq, nc0, nc1, nc4, nc8, Int.toNat_natCast, Int.cast_ofNat_Int, Int.ofNat_eq_natCast, and_true, true_and, s_subL, s_shr32, s_shl32, s_or32]; (repeat' apply And.intro) <;> first | trivial | omega)
  refine AWP.seq ?_
  (refine AWP.seq (AWP.go k 100 [] ?_); (conv => { arg 1; cbv }); refine ⟨?_, ?_⟩; rotate_left; (try dsimp only [sthen, sblock]); rotate_right; (try exact obs_nil))
  refine AWP.block ?_
  refine AWP.loopP (fun x : Nat × LI => ⟨mkF [(0, .sli .u32 a), (1, .int .i64 N), (5, .osl 0 0 N), (10, .int .i64 N), (11, .int .i64 x.1)] 31 0, [.row .u8 x.2]⟩)
    (fun x => x.1 ≤ N ∧ x.2.length = N ∧ ∀ j, j < x.1 → x.2.getD (N - 1 - j) 0 = ((V (4294967296 : Nat) a / 256 ^ j % 256 : Nat) : Int)) (fun x => N - x.1) (0, List.replicate N 0) ?_ ?_ ?_
  · subst_vars
    simp (disch := omega) only [obs_nil_iff, obs_cons_iff, s_ofNat, s_plus, s_len, s_rd, s_set, s_eql, s_neq, s_lss, s_leq, s_gtr, s_geq, s_not, s_and, s_beq, s_add, s_sub, s_mul, s_wrap, s_diff, s_max, s_min, s_quo, s_rem, s_quo32, s_rem32, s_quo64, s_rem64, s_zerosI, s_cat, wi, wrap_u32', wrap_u64', wrap_u8', decide_eq_true_eq, decide_eq_false_iff_not, beq_iff_eq, beq_eq_false_iff_ne, bne_iff_ne, bne_eq_false_iff_eq, Bool.not_eq_true', Bool.not_eq_false', ne_eq, nc0, nc1, nc4, nc8, Int.toNat_natCast, Int.cast_ofNat_Int, Int.ofNat_eq_natCast, and_true, true_and, s_subL, s_shr32, s_shl32, s_or32]
    (refine ⟨?_, ?_, rfl⟩ <;> repeat' (first | exact .nil | exact .any _ | exact .gone _ | exact .same _ | exact .lit _ _ | exact .nil _ | refine .cons ?_ ?_ | exact AvLe.int_eq (by first | rfl | (simp only [Int.ofNat_eq_natCast]; omega) | omega) | exact AvLe.lit_eq (by first | rfl | (simp only [Int.ofNat_eq_natCast]; omega) | omega) | exact AvLe.osl_eq (by first | rfl | (simp only [Int.ofNat_eq_natCast]; omega) | omega) (by first | rfl | (simp only [Int.ofNat_eq_natCast]; omega) | omega | (simp; done) | (simp; omega)) | refine BlLe.row_eq ?_))
  · exact ⟨Nat.zero_le _, by simp, fun j hj => absurd hj (by simp)⟩
  rintro ⟨i, out⟩ ⟨h1, h2, h3⟩
  dsimp only at h1 h2 h3
  have dj := da (i / 4)
  by_cases d : i < N
  · have e := dig32 da (j := i / 4) (p := 8 * i) (r := 8 * (i % 4)) (s := 8) (by omega) (by omega)
    have e2 := s_shr32u (x := a.getD (i / 4) 0) (y := 8 * ((i : Int) % 4)) (8 * (i % 4)) (by omega) dj (by omega)
    (refine AWP.seq (AWP.go k 100 [] ?_); (conv => { arg 1; cbv }); refine ⟨?_, ?_⟩; rotate_left; (try dsimp only [sthen, sblock]); rotate_right; (try exact obs_nil))
    (refine AWP.seq (AWP.go k 100 [true] ?_); (conv => { arg 1; cbv }); refine ⟨?_, ?_⟩; rotate_left; (try dsimp only [sthen, sblock]); rotate_right; (try exact obs_nil))
    · (subst_vars; simp (disch := omega) only [obs_nil_iff, obs_cons_iff, s_ofNat, s_plus, s_len, s_rd, s_set, s_eql, s_neq, s_lss, s_leq, s_gtr, s_geq, s_not, s_and, s_beq, s_add, s_sub, s_mul, s_wrap, s_diff, s_max, s_min, s_quo, s_rem, s_quo32, s_rem32, s_quo64, s_rem64, s_zerosI, s_cat, wi, wrap_u32', wrap_u64', wrap_u8', decide_eq_true_eq, decide_eq_false_iff_not, beq_iff_eq, beq_eq_false_iff_ne, bne_iff_ne, bne_eq_false_iff_eq, Bool.not_eq_true', Bool.not_eq_false', ne_eq, nc0, nc1, nc4, nc8, Int.toNat_natCast, Int.cast_ofNat_Int, Int.ofNat_eq_natCast, and_true, true_and, s_subL, s_shr32, s_shl32, s_or32]; (repeat' apply And.intro) <;> first | trivial | omega)
    (refine AWP.seq (AWP.go k 100 [] ?_); (conv => { arg 1; cbv }); refine ⟨?_, ?_⟩; rotate_left; (try dsimp only [sthen, sblock]); rotate_right; (try exact obs_nil))
    · subst_vars
      simp (disch := omega) only [nnP, obs_nil_iff, obs_cons_iff, s_ofNat, s_plus, s_len, s_rd, s_set, s_eql, s_neq, s_lss, s_leq, s_gtr, s_geq, s_not, s_and, s_beq, s_add, s_sub, s_mul, s_wrap, s_diff, s_max, s_min, s_quo, s_rem, s_quo32, s_rem32, s_quo64, s_rem64, s_zerosI, s_cat, wi, wrap_u32', wrap_u64', wrap_u8', decide_eq_true_eq, decide_eq_false_iff_not, beq_iff_eq, beq_eq_false_iff_ne, bne_iff_ne, bne_eq_false_iff_eq, Bool.not_eq_true', Bool.not_eq_false', ne_eq, nc0, nc1, nc4, nc8, Int.toNat_natCast, Int.cast_ofNat_Int, Int.ofNat_eq_natCast, and_true, true_and, s_subL, s_shr32, s_shl32, s_or32]
      omega
    (refine AWP.go k 100 [] ?_; (conv => { arg 1; cbv }); refine ⟨?_, ?_⟩; rotate_left; (try dsimp only [sthen, sblock]); rotate_right; (try exact obs_nil))
    apply handed.mk (i + 1, out.set (N - 1 - i) ((V (4294967296 : Nat) a / 256 ^ i % 256 : Nat) : Int))
    · have e3 : ((i : Int) / 4).toNat = i / 4 := by omega
      have e4 : (0 + ((N : Int) - 1 - i)).toNat = N - 1 - i := by omega
      subst_vars
      simp (disch := omega) only [rdW, e3, e2, e4, obs_nil_iff, obs_cons_iff, s_ofNat, s_plus, s_len, s_rd, s_set, s_eql, s_neq, s_lss, s_leq, s_gtr, s_geq, s_not, s_and, s_beq, s_add, s_sub, s_mul, s_wrap, s_diff, s_max, s_min, s_quo, s_rem, s_quo32, s_rem32, s_quo64, s_rem64, s_zerosI, s_cat, wi, wrap_u32', wrap_u64', wrap_u8', decide_eq_true_eq, decide_eq_false_iff_not, beq_iff_eq, beq_eq_false_iff_ne, bne_iff_ne, bne_eq_false_iff_eq, Bool.not_eq_true', Bool.not_eq_false', ne_eq, nc0, nc1, nc4, nc8, Int.toNat_natCast, Int.cast_ofNat_Int, Int.ofNat_eq_natCast, and_true, true_and, s_subL, s_shr32, s_shl32, s_or32]
      (refine ⟨?_, ?_, rfl⟩ <;> repeat' (first | exact .nil | exact .any _ | exact .gone _ | exact .same _ | exact .lit _ _ | exact .nil _ | refine .cons ?_ ?_ | exact AvLe.int_eq (by first | rfl | (simp only [Int.ofNat_eq_natCast]; omega) | omega) | exact AvLe.lit_eq (by first | rfl | (simp only [Int.ofNat_eq_natCast]; omega) | omega) | exact AvLe.osl_eq (by first | rfl | (simp only [Int.ofNat_eq_natCast]; omega) | omega) (by first | rfl | (simp only [Int.ofNat_eq_natCast]; omega) | omega | (simp; done) | (simp; omega)) | refine BlLe.row_eq ?_))
      congr 1
      rw [show (256 : Nat) = 2 ^ 8 by decide, ← Nat.pow_mul, ← e]
      have : a.getD (i / 4) 0 = ((a.getD (i / 4) 0).toNat : Int) := by omega
      rw [this]
      simp
    · dsimp only
      refine ⟨by omega, by simp [h2], fun j hj => ?_⟩
      rw [getD_set (by omega)]
      by_cases hji : j = i
      · rw [if_pos (by omega), hji]
      · rw [if_neg (by omega)]; exact h3 j (by omega)
    · dsimp only; omega
  · (refine AWP.seq (AWP.go k 100 [] ?_); (conv => { arg 1; cbv }); refine ⟨?_, ?_⟩; rotate_left; (try dsimp only [sthen, sblock]); rotate_right; (try exact obs_nil))
    (refine AWP.seq (AWP.go k 100 [false] ?_); (conv => { arg 1; cbv }); refine ⟨?_, ?_⟩; rotate_left; (try dsimp only [sthen, sblock]); rotate_right; (try exact obs_nil))
    · (subst_vars; simp (disch := omega) only [obs_nil_iff, obs_cons_iff, s_ofNat, s_plus, s_len, s_rd, s_set, s_eql, s_neq, s_lss, s_leq, s_gtr, s_geq, s_not, s_and, s_beq, s_add, s_sub, s_mul, s_wrap, s_diff, s_max, s_min, s_quo, s_rem, s_quo32, s_rem32, s_quo64, s_rem64, s_zerosI, s_cat, wi, wrap_u32', wrap_u64', wrap_u8', decide_eq_true_eq, decide_eq_false_iff_not, beq_iff_eq, beq_eq_false_iff_ne, bne_iff_ne, bne_eq_false_iff_eq, Bool.not_eq_true', Bool.not_eq_false', ne_eq, nc0, nc1, nc4, nc8, Int.toNat_natCast, Int.cast_ofNat_Int, Int.ofNat_eq_natCast, and_true, true_and, s_subL, s_shr32, s_shl32, s_or32]; (repeat' apply And.intro) <;> first | trivial | omega)
    (dsimp only [handed, handedR, sblock, sthen]; rw [if_pos rfl])
    have hi : i = N := by omega
    subst hi
    (refine AWP.seq (AWP.go k 100 [] ?_); (conv => { arg 1; cbv }); refine ⟨?_, ?_⟩; rotate_left; (try dsimp only [sthen, sblock]); rotate_right; (try exact obs_nil))
    (refine AWP.go k 100 [] ?_; (conv => { arg 1; cbv }); refine ⟨?_, ?_⟩; rotate_left; (try dsimp only [sthen, sblock]); rotate_right; (try exact obs_nil))
    (refine ⟨fun id => by simp, ?_⟩; conv => { lhs; cbv })
    rw [laV, Int.toNat_natCast, ← beV_of h2 h3]
    subst_vars
    simp (disch := omega) only [obs_nil_iff, obs_cons_iff, s_ofNat, s_plus, s_len, s_rd, s_set, s_eql, s_neq, s_lss, s_leq, s_gtr, s_geq, s_not, s_and, s_beq, s_add, s_sub, s_mul, s_wrap, s_diff, s_max, s_min, s_quo, s_rem, s_quo32, s_rem32, s_quo64, s_rem64, s_zerosI, s_cat, wi, wrap_u32', wrap_u64', wrap_u8', decide_eq_true_eq, decide_eq_false_iff_not, beq_iff_eq, beq_eq_false_iff_ne, bne_iff_ne, bne_eq_false_iff_eq, Bool.not_eq_true', Bool.not_eq_false', ne_eq, nc0, nc1, nc4, nc8, Int.toNat_natCast, Int.cast_ofNat_Int, Int.ofNat_eq_natCast, and_true, true_and, s_subL, s_shr32, s_shl32, s_or32]
    simp
theorem h_lay : Holds Try.prog 54 (gSI_Bp stdAr laV laP) := holds_SI_Bp fun a n ha hn hp => w_lay _ rfl _ rfl _ rfl ⟨h_word, trivial⟩ a n ha (of_decide_eq_true hp)
end Go.Proofs.SX

namespace Go.Proofs.SX
open Go Go.Proofs
set_option maxRecDepth 100000
set_option linter.unusedVariables false
set_option linter.unusedSimpArgs false
def byV (a : LI) : LI := beV (V (4294967296 : Nat) a) (lgV a).toNat
theorem lgV_le {a : LI} (da : Dg (4294967296 : Nat) a) : 0 ≤ lgV a ∧ lgV a ≤ 4 * a.length := by
  have := biV_le da
  unfold lgV; omega
theorem w_bytes (A : Ar) (hA : A = stdAr) (lg : LI → Int) (hlg : lg = lgV) (s1 : LI → Bool) (hs1 : s1 = sz1) (la : LI → Int → LI) (hla : la = laV) (lp : LI → Int → Bool) (hlp : lp = laP)
    (hG : allHold Try.prog [(53, gS_Ip lg s1), (54, gSI_Bp A la lp)]) (a : LI) (ha : Nm .u32 a) (h1 : a.length ≤ 1048576) : FCall Try.prog 28 [.sli .u32 a] (.sli .u8 (byV a)) := by
  have := lgV_le (nm32 ha)
  (refine FCall.exec (ok_of hA hG) (fn := Try.f28) 100 [] rfl rfl rfl (fun _ => ?_); (conv => { arg 1; cbv }); refine ⟨?_, ?_⟩; (try exact obs_nil))
  · subst_vars; simp (disch := omega) only [sz1, laP, obs_nil_iff, obs_cons_iff, s_ofNat, s_plus, s_len, s_rd, s_set, s_eql, s_neq, s_lss, s_leq, s_gtr, s_geq, s_not, s_and, s_beq, s_add, s_sub, s_mul, s_wrap, s_diff, s_max, s_min, s_quo, s_rem, s_quo32, s_rem32, s_quo64, s_rem64, s_zerosI, s_cat, wi, wrap_u32', wrap_u64', wrap_u8', decide_eq_true_eq, decide_eq_false_iff_not, beq_iff_eq, beq_eq_false_iff_ne, bne_iff_ne, bne_eq_false_iff_eq, Bool.not_eq_true', Bool.not_eq_false', ne_eq, nc0, nc1, nc4, nc8, Int.toNat_natCast, Int.cast_ofNat_Int, Int.ofNat_eq_natCast, and_true, true_and, s_subL, s_shr32, s_shl32, s_or32]; omega
  · subst_vars; rfl
theorem h_bytes : Holds Try.prog 28 (gS_Bp byV sz1) := holds_S_Bp fun a ha hp => w_bytes _ rfl _ rfl _ rfl _ rfl _ rfl ⟨h_long, h_lay, trivial⟩ a ha (of_decide_eq_true hp)
/-- Does it fit into so many bytes? -/
def fiNo (a : LI) (n : Int) : Prop := n < 0 ∨ 8192 < n ∨ n < lgV a
instance (a : LI) (n : Int) : Decidable (fiNo a n) := inferInstanceAs (Decidable (_ ∨ _ ∨ _))
def fiB (a : LI) (n : Int) : LI := if fiNo a n then [] else laV a n
def fiE (a : LI) (n : Int) : Int := if fiNo a n then 1 else 0
def sz1I (a : LI) (n : Int) : Bool := decide (a.length ≤ 1048576)
theorem w_fill (A : Ar) (hA : A = stdAr) (lg : LI → Int) (hlg : lg = lgV) (s1 : LI → Bool) (hs1 : s1 = sz1) (la : LI → Int → LI) (hla : la = laV) (lp : LI → Int → Bool) (hlp : lp = laP)
    (hG : allHold Try.prog [(53, gS_Ip lg s1), (54, gSI_Bp A la lp)]) (a : LI) (n : Int) (ha : Nm .u32 a) (h1 : a.length ≤ 1048576) : FCall Try.prog 24 [.sli .u32 a, .int .i64 n] (.tup [.sli .u8 (fiB a n), .int .i64 (fiE a n)]) := by
  have k := ok_of hA hG
  have := lgV_le (nm32 ha)
  by_cases c1 : n < 0
  · rw [fiB, fiE, if_pos (.inl c1), if_pos (.inl c1)]
    (refine FCall.exec k (fn := Try.f24) 100 [true, true, true] rfl rfl rfl (fun _ => ?_); (conv => { arg 1; cbv }); refine ⟨?_, ?_⟩; (try exact obs_nil))
    · (subst_vars; simp (disch := omega) only [obs_nil_iff, obs_cons_iff, s_ofNat, s_plus, s_len, s_rd, s_set, s_eql, s_neq, s_lss, s_leq, s_gtr, s_geq, s_not, s_and, s_beq, s_add, s_sub, s_mul, s_wrap, s_diff, s_max, s_min, s_quo, s_rem, s_quo32, s_rem32, s_quo64, s_rem64, s_zerosI, s_cat, wi, wrap_u32', wrap_u64', wrap_u8', decide_eq_true_eq, decide_eq_false_iff_not, beq_iff_eq, beq_eq_false_iff_ne, bne_iff_ne, bne_eq_false_iff_eq, Bool.not_eq_true', Bool.not_eq_false', ne_eq, nc0, nc1, nc4, nc8, Int.toNat_natCast, Int.cast_ofNat_Int, Int.ofNat_eq_natCast, and_true, true_and, s_subL, s_shr32, s_shl32, s_or32]; (repeat' apply And.intro) <;> first | trivial | omega)
    · subst_vars; rfl
  by_cases c2 : 8192 < n
  · rw [fiB, fiE, if_pos (.inr (.inl c2)), if_pos (.inr (.inl c2))]
    (refine FCall.exec k (fn := Try.f24) 100 [false, false, false, true, true, true, true, true] rfl rfl rfl (fun _ => ?_); (conv => { arg 1; cbv }); refine ⟨?_, ?_⟩; (try exact obs_nil))
    · (subst_vars; simp (disch := omega) only [obs_nil_iff, obs_cons_iff, s_ofNat, s_plus, s_len, s_rd, s_set, s_eql, s_neq, s_lss, s_leq, s_gtr, s_geq, s_not, s_and, s_beq, s_add, s_sub, s_mul, s_wrap, s_diff, s_max, s_min, s_quo, s_rem, s_quo32, s_rem32, s_quo64, s_rem64, s_zerosI, s_cat, wi, wrap_u32', wrap_u64', wrap_u8', decide_eq_true_eq, decide_eq_false_iff_not, beq_iff_eq, beq_eq_false_iff_ne, bne_iff_ne, bne_eq_false_iff_eq, Bool.not_eq_true', Bool.not_eq_false', ne_eq, nc0, nc1, nc4, nc8, Int.toNat_natCast, Int.cast_ofNat_Int, Int.ofNat_eq_natCast, and_true, true_and, s_subL, s_shr32, s_shl32, s_or32]; (repeat' apply And.intro) <;> first | trivial | omega)
    · subst_vars; rfl
  by_cases c3 : n < lgV a
  · rw [fiB, fiE, if_pos (.inr (.inr c3)), if_pos (.inr (.inr c3))]
    (refine FCall.exec k (fn := Try.f24) 100 [false, false, false, false, false, false, false, false, true] rfl rfl rfl (fun _ => ?_); (conv => { arg 1; cbv }); refine ⟨?_, ?_⟩; (try exact obs_nil))
    · subst_vars; simp (disch := omega) only [sz1, obs_nil_iff, obs_cons_iff, s_ofNat, s_plus, s_len, s_rd, s_set, s_eql, s_neq, s_lss, s_leq, s_gtr, s_geq, s_not, s_and, s_beq, s_add, s_sub, s_mul, s_wrap, s_diff, s_max, s_min, s_quo, s_rem, s_quo32, s_rem32, s_quo64, s_rem64, s_zerosI, s_cat, wi, wrap_u32', wrap_u64', wrap_u8', decide_eq_true_eq, decide_eq_false_iff_not, beq_iff_eq, beq_eq_false_iff_ne, bne_iff_ne, bne_eq_false_iff_eq, Bool.not_eq_true', Bool.not_eq_false', ne_eq, nc0, nc1, nc4, nc8, Int.toNat_natCast, Int.cast_ofNat_Int, Int.ofNat_eq_natCast, and_true, true_and, s_subL, s_shr32, s_shl32, s_or32]; omega
    · subst_vars; rfl
  · have hno : ¬ fiNo a n := fun h => h.elim c1 fun h => h.elim c2 c3
    rw [fiB, fiE, if_neg hno, if_neg hno]
    (refine FCall.exec k (fn := Try.f24) 100 [false, false, false, false, false, false, false, false, false] rfl rfl rfl (fun _ => ?_); (conv => { arg 1; cbv }); refine ⟨?_, ?_⟩; (try exact obs_nil))
    · subst_vars; simp (disch := omega) only [sz1, laP, obs_nil_iff, obs_cons_iff, s_ofNat, s_plus, s_len, s_rd, s_set, s_eql, s_neq, s_lss, s_leq, s_gtr, s_geq, s_not, s_and, s_beq, s_add, s_sub, s_mul, s_wrap, s_diff, s_max, s_min, s_quo, s_rem, s_quo32, s_rem32, s_quo64, s_rem64, s_zerosI, s_cat, wi, wrap_u32', wrap_u64', wrap_u8', decide_eq_true_eq, decide_eq_false_iff_not, beq_iff_eq, beq_eq_false_iff_ne, bne_iff_ne, bne_eq_false_iff_eq, Bool.not_eq_true', Bool.not_eq_false', ne_eq, nc0, nc1, nc4, nc8, Int.toNat_natCast, Int.cast_ofNat_Int, Int.ofNat_eq_natCast, and_true, true_and, s_subL, s_shr32, s_shl32, s_or32]; omega
    · subst_vars; rfl
theorem h_fill : Holds Try.prog 24 (gSI_BIp stdAr fiB fiE sz1I) := holds_SI_BIp fun a n ha hn hp => w_fill _ rfl _ rfl _ rfl _ rfl _ rfl ⟨h_long, h_lay, trivial⟩ a n ha (of_decide_eq_true hp)
end Go.Proofs.SX

namespace Go.Proofs.SX
open Go Go.Proofs
set_option maxRecDepth 100000
set_option linter.unusedVariables false
set_option linter.unusedSimpArgs false
def reW (b : LI) : LI := W (V 256 b.reverse)
def sz1b (b : LI) : Bool := decide (b.length ≤ 1073741824)
/-- A byte that has come. -/
def qB (r : LI) (m p : Nat) : Int := if m ≤ p then r.getD p 0 else 0
def wB (r : LI) (m j : Nat) : Int := qB r m (4 * j) + qB r m (4 * j + 1) * 256 + qB r m (4 * j + 2) * 65536 + qB r m (4 * j + 3) * 16777216
theorem qB_rg {r : LI} (h : Dg 256 r) (m p : Nat) : 0 ≤ qB r m p ∧ qB r m p < 256 := by
  unfold qB; split
  · have := h p; omega
  · omega
theorem wB_other {r : LI} {k j : Nat} (h : j ≠ k / 4) : wB r k j = wB r (k + 1) j := by
  unfold wB
  have : ∀ p, p ≠ k → qB r k p = qB r (k + 1) p := fun p hp => by
    unfold qB
    by_cases c : k ≤ p
    · rw [if_pos c, if_pos (by omega)]
    · rw [if_neg c, if_neg (by omega)]
  rw [this _ (by omega), this _ (by omega), this _ (by omega), this _ (by omega)]
theorem wB_this {r : LI} (h : Dg 256 r) {k : Nat} : stdAr.bin .or .u32 (wB r (k + 1) (k / 4)) (r.getD k 0 * 2 ^ (8 * (k % 4)) % 4294967296) = wB r k (k / 4) := by
  have hx := h k
  have lo : ∀ p, p < k → qB r k p = 0 ∧ qB r (k + 1) p = 0 := fun p hp => by unfold qB; rw [if_neg (by omega), if_neg (by omega)]; exact ⟨rfl, rfl⟩
  have hi : ∀ p, k < p → qB r k p = qB r (k + 1) p := fun p hp => by unfold qB; rw [if_pos (by omega), if_pos (by omega)]
  have eq1 : qB r k k = r.getD k 0 := by unfold qB; rw [if_pos (by omega)]
  have eq2 : qB r (k + 1) k = 0 := by unfold qB; rw [if_neg (by omega)]
  generalize hj : k / 4 = j
  unfold wB
  have r1 := qB_rg h (k + 1) (4 * j + 1)
  have r2 := qB_rg h (k + 1) (4 * j + 2)
  have r3 := qB_rg h (k + 1) (4 * j + 3)
  have hk : k = 4 * j ∨ k = 4 * j + 1 ∨ k = 4 * j + 2 ∨ k = 4 * j + 3 := by omega
  generalize r.getD k 0 = x at *
  rcases hk with e | e | e | e
  · rw [show k % 4 = 0 by omega, ← e, eq1, eq2, hi (k + 1) (by omega), hi (k + 2) (by omega), hi (k + 3) (by omega)]
    rw [← e] at r1 r2 r3
    have := s_oru 8 (by decide) (x := x) (y := qB r (k + 1) (k + 1) + qB r (k + 1) (k + 2) * 256 + qB r (k + 1) (k + 3) * 65536) (by omega) (by omega)
    rw [show ((0 : Int) + qB r (k + 1) (k + 1) * 256 + qB r (k + 1) (k + 2) * 65536 + qB r (k + 1) (k + 3) * 16777216) = (qB r (k + 1) (k + 1) + qB r (k + 1) (k + 2) * 256 + qB r (k + 1) (k + 3) * 65536) * 2 ^ 8 by omega, show x * 2 ^ (8 * 0) % 4294967296 = x by omega, this]
    omega
  · rw [show k % 4 = 1 by omega, ← e, eq1, eq2, (lo (4 * j) (by omega)).1, (lo (4 * j) (by omega)).2, hi (4 * j + 2) (by omega), hi (4 * j + 3) (by omega)]
    have := s_oru 16 (by decide) (x := x * 256) (y := qB r (k + 1) (4 * j + 2) + qB r (k + 1) (4 * j + 3) * 256) (by omega) (by omega)
    rw [show ((0 : Int) + 0 * 256 + qB r (k + 1) (4 * j + 2) * 65536 + qB r (k + 1) (4 * j + 3) * 16777216) = (qB r (k + 1) (4 * j + 2) + qB r (k + 1) (4 * j + 3) * 256) * 2 ^ 16 by omega, show x * 2 ^ (8 * 1) % 4294967296 = x * 256 by omega, this]
    omega
  · rw [show k % 4 = 2 by omega, ← e, eq1, eq2, (lo (4 * j) (by omega)).1, (lo (4 * j) (by omega)).2, (lo (4 * j + 1) (by omega)).1, (lo (4 * j + 1) (by omega)).2, hi (4 * j + 3) (by omega)]
    have := s_oru 24 (by decide) (x := x * 65536) (y := qB r (k + 1) (4 * j + 3)) (by omega) (by omega)
    rw [show ((0 : Int) + 0 * 256 + 0 * 65536 + qB r (k + 1) (4 * j + 3) * 16777216) = (qB r (k + 1) (4 * j + 3)) * 2 ^ 24 by omega, show x * 2 ^ (8 * 2) % 4294967296 = x * 65536 by omega, this]
    omega
  · rw [show k % 4 = 3 by omega, ← e, eq1, eq2, (lo (4 * j) (by omega)).1, (lo (4 * j) (by omega)).2, (lo (4 * j + 1) (by omega)).1, (lo (4 * j + 1) (by omega)).2, (lo (4 * j + 2) (by omega)).1, (lo (4 * j + 2) (by omega)).2]
    have := s_oru 32 (by decide) (x := x * 16777216) (y := 0) (by omega) (by omega)
    rw [show ((0 : Int) + 0 * 256 + 0 * 65536 + 0 * 16777216) = 0 * 2 ^ 32 by omega, show x * 2 ^ (8 * 3) % 4294967296 = x * 16777216 by omega, this]
    omega
theorem wB_all {r row : LI} (h : Dg 256 r) (hl : r.length ≤ 4 * row.length) (hw : ∀ j, j < row.length → row.getD j 0 = wB r 0 j) : V (4294967296 : Nat) row = V 256 r := by
  have key : ∀ j, j ≤ row.length → pre (4294967296 : Nat) row j = pre 256 r (4 * j) := by
    intro j
    induction j with
    | zero => intro _; rfl
    | succ j ih =>
      intro hj
      rw [pre_succ, ih (by omega), hw j (by omega)]
      show _ = pre 256 r (4 * j + 1 + 1 + 1 + 1)
      rw [pre_succ, pre_succ, pre_succ, pre_succ]
      have h0 := h (4 * j)
      have h1 := h (4 * j + 1)
      have h2 := h (4 * j + 2)
      have h3 := h (4 * j + 3)
      have e : (wB r 0 j).toNat = (r.getD (4 * j) 0).toNat + (r.getD (4 * j + 1) 0).toNat * 256 + (r.getD (4 * j + 2) 0).toNat * 65536 + (r.getD (4 * j + 3) 0).toNat * 16777216 := by
        unfold wB qB
        simp only [Nat.zero_le, if_true]
        omega
      have ep : (4294967296 : Nat) ^ j = 256 ^ (4 * j) := by rw [Nat.pow_mul]
      rw [e, ep, Nat.pow_add 256 (4 * j) 1, show 4 * j + 1 + 1 = 4 * j + 2 by omega, show 4 * j + 2 + 1 = 4 * j + 3 by omega, Nat.pow_add 256 (4 * j) 2, Nat.pow_add 256 (4 * j) 3]
      generalize 256 ^ (4 * j) = P
      simp only [Nat.add_mul, ← Nat.mul_assoc, Nat.mul_right_comm _ _ P, Nat.reducePow]
      omega
  show pre (4294967296 : Nat) row row.length = _
  rw [key _ (Nat.le_refl _), pre_ge hl]
theorem Dg.reverse {b : Nat} (hb : 0 < b) {a : LI} (h : Dg b a) : Dg b a.reverse := Dg.of_mem hb fun x hx => h.mem x (List.mem_reverse.1 hx)
theorem w_read (A : Ar) (hA : A = stdAr) (tr : LI → LI) (htr : tr = trW) (hG : allHold Try.prog [(44, gS_S tr)]) (b : LI) (hb : Nm .u8 b) (lb : b.length ≤ 1073741824) :
    FCall Try.prog 26 [.sli .u8 b] (.sli .u32 (reW b)) := by
  have k := ok_of hA hG
  have db := (nm8 hb).reverse (by decide)
  have hr : ∀ i, i < b.length → b.getD i 0 = b.reverse.getD (b.length - 1 - i) 0 := fun i hi => by
    rw [getD_rev (by omega)]; congr 1; omega
  have hL : b.reverse.length = b.length := List.length_reverse
  refine FCall.of_body k (fn := Try.f26) rfl rfl rfl rfl (fun _ => ?_)
  (refine AWP.seq (AWP.go k 100 [] ?_); (conv => { arg 1; cbv }); refine ⟨?_, ?_⟩; rotate_left; (try dsimp only [sthen, sblock]); rotate_right; (try exact obs_nil))
  (refine AWP.seq (AWP.go k 100 [] ?_); (conv => { arg 1; cbv }); refine ⟨?_, ?_⟩; rotate_left; (try dsimp only [sthen, sblock]); rotate_right; (try exact obs_nil))
  · (subst_vars; simp (disch := omega) only [obs_nil_iff, obs_cons_iff, s_ofNat, s_plus, s_len, s_rd, s_set, s_eql, s_neq, s_lss, s_leq, s_gtr, s_geq, s_not, s_and, s_beq, s_add, s_sub, s_mul, s_wrap, s_diff, s_max, s_min, s_quo, s_rem, s_quo32, s_rem32, s_quo64, s_rem64, s_zerosI, s_cat, wi, wrap_u32', wrap_u64', wrap_u8', decide_eq_true_eq, decide_eq_false_iff_not, beq_iff_eq, beq_eq_false_iff_ne, bne_iff_ne, bne_eq_false_iff_eq, Bool.not_eq_true', Bool.not_eq_false', ne_eq, nc0, nc1, nc4, nc8, Int.toNat_natCast, Int.cast_ofNat_Int, Int.ofNat_eq_natCast, and_true, true_and, s_subL, s_shr32, s_shl32, s_or32]; (repeat' apply And.intro) <;> first | trivial | omega)
  refine AWP.seq ?_
  (refine AWP.seq (AWP.go k 100 [] ?_); (conv => { arg 1; cbv }); refine ⟨?_, ?_⟩; rotate_left; (try dsimp only [sthen, sblock]); rotate_right; (try exact obs_nil))
  obtain ⟨N, hN, hN2⟩ : ∃ N : Nat, ((b.length : Int) + 3) / 4 = (N : Int) ∧ N = (b.length + 3) / 4 := ⟨(b.length + 3) / 4, by omega, rfl⟩
  refine AWP.block ?_
  refine AWP.loopP (fun x : Nat × LI => ⟨mkF [(0, .sli .u8 b), (3, .osl 0 0 N), (12, .sli .u8 b), (13, .int .i64 (A.len b)), (14, .int .i64 x.1)] 40 0, [.row .u32 x.2]⟩)
    (fun x => x.1 ≤ b.length ∧ x.2.length = N ∧ ∀ j, j < N → x.2.getD j 0 = wB b.reverse (b.length - x.1) j) (fun x => b.length - x.1) (0, List.replicate N 0) ?_ ?_ ?_
  · subst_vars
    simp (disch := omega) only [hN, obs_nil_iff, obs_cons_iff, s_ofNat, s_plus, s_len, s_rd, s_set, s_eql, s_neq, s_lss, s_leq, s_gtr, s_geq, s_not, s_and, s_beq, s_add, s_sub, s_mul, s_wrap, s_diff, s_max, s_min, s_quo, s_rem, s_quo32, s_rem32, s_quo64, s_rem64, s_zerosI, s_cat, wi, wrap_u32', wrap_u64', wrap_u8', decide_eq_true_eq, decide_eq_false_iff_not, beq_iff_eq, beq_eq_false_iff_ne, bne_iff_ne, bne_eq_false_iff_eq, Bool.not_eq_true', Bool.not_eq_false', ne_eq, nc0, nc1, nc4, nc8, Int.toNat_natCast, Int.cast_ofNat_Int, Int.ofNat_eq_natCast, and_true, true_and, s_subL, s_shr32, s_shl32, s_or32]
    (refine ⟨?_, ?_, rfl⟩ <;> repeat' (first | exact .nil | exact .any _ | exact .gone _ | exact .same _ | exact .lit _ _ | exact .nil _ | refine .cons ?_ ?_ | exact AvLe.int_eq (by first | rfl | (simp only [Int.ofNat_eq_natCast]; omega) | omega) | exact AvLe.lit_eq (by first | rfl | (simp only [Int.ofNat_eq_natCast]; omega) | omega) | exact AvLe.osl_eq (by first | rfl | (simp only [Int.ofNat_eq_natCast]; omega) | omega) (by first | rfl | (simp only [Int.ofNat_eq_natCast]; omega) | omega | (simp; done) | (simp; omega)) | refine BlLe.row_eq ?_))
  · refine ⟨Nat.zero_le _, by simp, fun j hj => ?_⟩
    have : wB b.reverse (b.length - 0) j = 0 := by
      have : ∀ p, qB b.reverse (b.length - 0) p = 0 := fun p => by
        unfold qB; split
        · exact getD_big (by omega)
        · rfl
      unfold wB
      rw [this, this, this, this]; rfl
    rw [this]
    simp [List.getD_eq_getElem?_getD, List.getElem?_replicate, hj]
  rintro ⟨i, row⟩ ⟨h1, h2, h3⟩
  dsimp only at h1 h2 h3
  by_cases d : i < b.length
  · have e1 := hr i d
    have ej := h3 ((b.length - 1 - i) / 4) (by omega)
    have et := wB_this db (k := b.length - 1 - i)
    rw [← e1, show b.length - 1 - i + 1 = b.length - i by omega, ← ej] at et
    have hx := (nm8 hb) i
    have es := s_shl32u (x := b.getD i 0) (y := 8 * (((b.length : Int) - 1 - i) % 4)) (8 * ((b.length - 1 - i) % 4)) (by omega) (by omega)
    (refine AWP.seq (AWP.go k 100 [] ?_); (conv => { arg 1; cbv }); refine ⟨?_, ?_⟩; rotate_left; (try dsimp only [sthen, sblock]); rotate_right; (try exact obs_nil))
    (refine AWP.seq (AWP.go k 100 [true] ?_); (conv => { arg 1; cbv }); refine ⟨?_, ?_⟩; rotate_left; (try dsimp only [sthen, sblock]); rotate_right; (try exact obs_nil))
    · (subst_vars; simp (disch := omega) only [obs_nil_iff, obs_cons_iff, s_ofNat, s_plus, s_len, s_rd, s_set, s_eql, s_neq, s_lss, s_leq, s_gtr, s_geq, s_not, s_and, s_beq, s_add, s_sub, s_mul, s_wrap, s_diff, s_max, s_min, s_quo, s_rem, s_quo32, s_rem32, s_quo64, s_rem64, s_zerosI, s_cat, wi, wrap_u32', wrap_u64', wrap_u8', decide_eq_true_eq, decide_eq_false_iff_not, beq_iff_eq, beq_eq_false_iff_ne, bne_iff_ne, bne_eq_false_iff_eq, Bool.not_eq_true', Bool.not_eq_false', ne_eq, nc0, nc1, nc4, nc8, Int.toNat_natCast, Int.cast_ofNat_Int, Int.ofNat_eq_natCast, and_true, true_and, s_subL, s_shr32, s_shl32, s_or32]; (repeat' apply And.intro) <;> first | trivial | omega)
    (refine AWP.seq (AWP.go k 100 [] ?_); (conv => { arg 1; cbv }); refine ⟨?_, ?_⟩; rotate_left; (try dsimp only [sthen, sblock]); rotate_right; (try exact obs_nil))
    · (subst_vars; simp (disch := omega) only [obs_nil_iff, obs_cons_iff, s_ofNat, s_plus, s_len, s_rd, s_set, s_eql, s_neq, s_lss, s_leq, s_gtr, s_geq, s_not, s_and, s_beq, s_add, s_sub, s_mul, s_wrap, s_diff, s_max, s_min, s_quo, s_rem, s_quo32, s_rem32, s_quo64, s_rem64, s_zerosI, s_cat, wi, wrap_u32', wrap_u64', wrap_u8', decide_eq_true_eq, decide_eq_false_iff_not, beq_iff_eq, beq_eq_false_iff_ne, bne_iff_ne, bne_eq_false_iff_eq, Bool.not_eq_true', Bool.not_eq_false', ne_eq, nc0, nc1, nc4, nc8, Int.toNat_natCast, Int.cast_ofNat_Int, Int.ofNat_eq_natCast, and_true, true_and, s_subL, s_shr32, s_shl32, s_or32]; (repeat' apply And.intro) <;> first | trivial | omega)
    (refine AWP.go k 100 [] ?_; (conv => { arg 1; cbv }); refine ⟨?_, ?_⟩; rotate_left; (try dsimp only [sthen, sblock]); rotate_right; (try exact obs_nil))
    apply handed.mk (i + 1, row.set ((b.length - 1 - i) / 4) (wB b.reverse (b.length - 1 - i) ((b.length - 1 - i) / 4)))
    · have e3 : (((b.length : Int) - 1 - i) / 4).toNat = (b.length - 1 - i) / 4 := by omega
      have e4 : (0 + ((b.length : Int) - 1 - i) / 4).toNat = (b.length - 1 - i) / 4 := by omega
      subst_vars
      simp (disch := omega) only [e3, e4, Int.emod_eq_of_lt, es, et, obs_nil_iff, obs_cons_iff, s_ofNat, s_plus, s_len, s_rd, s_set, s_eql, s_neq, s_lss, s_leq, s_gtr, s_geq, s_not, s_and, s_beq, s_add, s_sub, s_mul, s_wrap, s_diff, s_max, s_min, s_quo, s_rem, s_quo32, s_rem32, s_quo64, s_rem64, s_zerosI, s_cat, wi, wrap_u32', wrap_u64', wrap_u8', decide_eq_true_eq, decide_eq_false_iff_not, beq_iff_eq, beq_eq_false_iff_ne, bne_iff_ne, bne_eq_false_iff_eq, Bool.not_eq_true', Bool.not_eq_false', ne_eq, nc0, nc1, nc4, nc8, Int.toNat_natCast, Int.cast_ofNat_Int, Int.ofNat_eq_natCast, and_true, true_and, s_subL, s_shr32, s_shl32, s_or32]
      (refine ⟨?_, ?_, rfl⟩ <;> repeat' (first | exact .nil | exact .any _ | exact .gone _ | exact .same _ | exact .lit _ _ | exact .nil _ | refine .cons ?_ ?_ | exact AvLe.int_eq (by first | rfl | (simp only [Int.ofNat_eq_natCast]; omega) | omega) | exact AvLe.lit_eq (by first | rfl | (simp only [Int.ofNat_eq_natCast]; omega) | omega) | exact AvLe.osl_eq (by first | rfl | (simp only [Int.ofNat_eq_natCast]; omega) | omega) (by first | rfl | (simp only [Int.ofNat_eq_natCast]; omega) | omega | (simp; done) | (simp; omega)) | refine BlLe.row_eq ?_))
    · dsimp only
      refine ⟨by omega, by simp [h2], fun j hj => ?_⟩
      rw [getD_set (by omega)]
      by_cases hji : j = (b.length - 1 - i) / 4
      · rw [if_pos hji, hji]; congr 1; omega
      · rw [if_neg hji, h3 j hj]
        have := wB_other (r := b.reverse) (k := b.length - 1 - i) hji
        rw [show b.length - 1 - i + 1 = b.length - i by omega] at this
        rw [← this]; congr 1; omega
    · dsimp only; omega
  · (refine AWP.seq (AWP.go k 100 [] ?_); (conv => { arg 1; cbv }); refine ⟨?_, ?_⟩; rotate_left; (try dsimp only [sthen, sblock]); rotate_right; (try exact obs_nil))
    (refine AWP.seq (AWP.go k 100 [false] ?_); (conv => { arg 1; cbv }); refine ⟨?_, ?_⟩; rotate_left; (try dsimp only [sthen, sblock]); rotate_right; (try exact obs_nil))
    · (subst_vars; simp (disch := omega) only [obs_nil_iff, obs_cons_iff, s_ofNat, s_plus, s_len, s_rd, s_set, s_eql, s_neq, s_lss, s_leq, s_gtr, s_geq, s_not, s_and, s_beq, s_add, s_sub, s_mul, s_wrap, s_diff, s_max, s_min, s_quo, s_rem, s_quo32, s_rem32, s_quo64, s_rem64, s_zerosI, s_cat, wi, wrap_u32', wrap_u64', wrap_u8', decide_eq_true_eq, decide_eq_false_iff_not, beq_iff_eq, beq_eq_false_iff_ne, bne_iff_ne, bne_eq_false_iff_eq, Bool.not_eq_true', Bool.not_eq_false', ne_eq, nc0, nc1, nc4, nc8, Int.toNat_natCast, Int.cast_ofNat_Int, Int.ofNat_eq_natCast, and_true, true_and, s_subL, s_shr32, s_shl32, s_or32]; (repeat' apply And.intro) <;> first | trivial | omega)
    (dsimp only [handed, handedR, sblock, sthen]; rw [if_pos rfl])
    have hi : i = b.length := by omega
    subst hi
    (refine AWP.seq (AWP.go k 100 [] ?_); (conv => { arg 1; cbv }); refine ⟨?_, ?_⟩; rotate_left; (try dsimp only [sthen, sblock]); rotate_right; (try exact obs_nil))
    (refine AWP.go k 100 [] ?_; (conv => { arg 1; cbv }); refine ⟨?_, ?_⟩; rotate_left; (try dsimp only [sthen, sblock]); rotate_right; (try exact obs_nil))
    (refine ⟨fun id => by simp, ?_⟩; conv => { lhs; cbv })
    have := wB_all (row := row) db (by omega) (fun j hj => by rw [h3 j (by omega)]; congr 1; omega)
    rw [reW, ← this]
    subst_vars
    simp (disch := omega) only [obs_nil_iff, obs_cons_iff, s_ofNat, s_plus, s_len, s_rd, s_set, s_eql, s_neq, s_lss, s_leq, s_gtr, s_geq, s_not, s_and, s_beq, s_add, s_sub, s_mul, s_wrap, s_diff, s_max, s_min, s_quo, s_rem, s_quo32, s_rem32, s_quo64, s_rem64, s_zerosI, s_cat, wi, wrap_u32', wrap_u64', wrap_u8', decide_eq_true_eq, decide_eq_false_iff_not, beq_iff_eq, beq_eq_false_iff_ne, bne_iff_ne, bne_eq_false_iff_eq, Bool.not_eq_true', Bool.not_eq_false', ne_eq, nc0, nc1, nc4, nc8, Int.toNat_natCast, Int.cast_ofNat_Int, Int.ofNat_eq_natCast, and_true, true_and, s_subL, s_shr32, s_shl32, s_or32]
    rw [trW]
    congr 3
    simp
    rw [List.take_of_length_le (by omega)]
theorem h_read : Holds Try.prog 26 (gB_Sp reW sz1b) := holds_B_Sp fun b hb hp => w_read _ rfl _ rfl ⟨h_trim, trivial⟩ b hb (of_decide_eq_true hp)
end Go.Proofs.SX

namespace Go.Proofs.SX
open Go Go.Proofs
set_option maxRecDepth 100000
set_option linter.unusedVariables false
set_option linter.unusedSimpArgs false
theorem div_step {H w d : Nat} (hd : 0 < d) (hw : w < 4294967296) : (H % d * 4294967296 + w) / d = (H * 4294967296 + w) / d % 4294967296 ∧ (H % d * 4294967296 + w) % d = (H * 4294967296 + w) % d := by
  have h1 := Nat.mod_lt H hd
  have e : H * 4294967296 + w = (H % d * 4294967296 + w) + d * (H / d * 4294967296) := by
    have := Nat.div_add_mod H d
    have h2 : H * 4294967296 = (d * (H / d) + H % d) * 4294967296 := by rw [this]
    rw [h2, Nat.add_mul, Nat.mul_assoc]; omega
  have h3 : (H % d * 4294967296 + w) / d < 4294967296 := Nat.div_lt_of_lt_mul (by
    have : (H % d + 1) * 4294967296 ≤ d * 4294967296 := Nat.mul_le_mul_right _ h1
    omega)
  rw [e, Nat.add_mul_div_left _ _ hd, Nat.add_mul_mod_self_left, Nat.add_mul_mod_self_right, Nat.mod_eq_of_lt h3]
  exact ⟨rfl, rfl⟩
theorem top_step {a : LI} (da : Dg (4294967296 : Nat) a) (i : Nat) : V (4294967296 : Nat) a / (4294967296 : Nat) ^ i = V (4294967296 : Nat) a / (4294967296 : Nat) ^ (i + 1) * 4294967296 + (a.getD i 0).toNat := by
  rw [getD_eq (by decide) da, Int.toNat_natCast, Nat.pow_succ, ← Nat.div_div_eq_div_mul]
  have := Nat.div_add_mod (V (4294967296 : Nat) a / (4294967296 : Nat) ^ i) 4294967296
  omega
def smQ (a : LI) (d : Int) : LI := W (V (4294967296 : Nat) a / d.toNat)
def smR (a : LI) (d : Int) : LI := W (V (4294967296 : Nat) a % d.toNat)
def smP (a : LI) (d : Int) : Bool := decide (0 < d ∧ a.length ≤ 1048576)
theorem w_small (A : Ar) (hA : A = stdAr) (tr : LI → LI) (htr : tr = trW) (fr : Int → LI) (hfr : fr = frW) (dq dr : Int → Int → Int → Int) (hdq : dq = dq32) (hdr : dr = dr32) (dp : Int → Int → Int → Bool) (hdp : dp = divP)
    (hG : allHold Try.prog [(44, gS_S tr), (42, gV_S A fr), (48, gDown 70), (71, gUUU_UUp A dq dr dp)]) (a : LI) (d : Int) (ha : Nm .u32 a) (hd : Rg .u32 d) (h0 : 0 < d) (la : a.length ≤ 1048576) :
    FCall Try.prog 56 [.sli .u32 a, .int .u32 d] (.tup [.sli .u32 (smQ a d), .sli .u32 (smR a d)]) := by
  have k := ok_of hA hG
  have da := nm32 ha
  have hd := rg32.1 hd
  refine FCall.of_body k (fn := Try.f56) rfl rfl rfl rfl (fun _ => ?_)
  (refine AWP.seq (AWP.go k 100 [] ?_); (conv => { arg 1; cbv }); refine ⟨?_, ?_⟩; rotate_left; (try dsimp only [sthen, sblock]); rotate_right; (try exact obs_nil))
  (refine AWP.seq (AWP.go k 100 [] ?_); (conv => { arg 1; cbv }); refine ⟨?_, ?_⟩; rotate_left; (try dsimp only [sthen, sblock]); rotate_right; (try exact obs_nil))
  · (subst_vars; simp (disch := omega) only [obs_nil_iff, obs_cons_iff, s_ofNat, s_plus, s_len, s_rd, s_set, s_eql, s_neq, s_lss, s_leq, s_gtr, s_geq, s_not, s_and, s_beq, s_add, s_sub, s_mul, s_wrap, s_diff, s_max, s_min, s_quo, s_rem, s_quo32, s_rem32, s_quo64, s_rem64, s_zerosI, s_cat, wi, wrap_u32', wrap_u64', wrap_u8', decide_eq_true_eq, decide_eq_false_iff_not, beq_iff_eq, beq_eq_false_iff_ne, bne_iff_ne, bne_eq_false_iff_eq, Bool.not_eq_true', Bool.not_eq_false', ne_eq, nc0, nc1, nc4, nc8, Int.toNat_natCast, Int.cast_ofNat_Int, Int.ofNat_eq_natCast, and_true, true_and, s_subL, s_shr32, s_shl32, s_or32]; (repeat' apply And.intro) <;> first | trivial | omega)
  (refine AWP.seq (AWP.go k 100 [] ?_); (conv => { arg 1; cbv }); refine ⟨?_, ?_⟩; rotate_left; (try dsimp only [sthen, sblock]); rotate_right; (try exact obs_nil))
  refine AWP.seq ?_
  (refine AWP.seq (AWP.go k 100 [] ?_); (conv => { arg 1; cbv }); refine ⟨?_, ?_⟩; rotate_left; (try dsimp only [sthen, sblock]); rotate_right; (try exact obs_nil))
  refine AWP.block ?_
  refine AWP.le (s' := ⟨_, [.cells [.int .u32 d], .row .u32 (List.replicate a.length 0), .cells [.osl 1 0 (A.len a)], .cells [.int .u32 0]]⟩) ⟨FrLe.refl _, ?_, by subst hA; rfl⟩ ?_
  · refine .cons (.same _) (.cons (BlLe.row_eq ?_) (.cons (.same _) (.cons (.cells (.cons (AvLe.lit_eq rfl) rfl .nil)) (.nil _))))
    subst_vars; simp (disch := omega) only [obs_nil_iff, obs_cons_iff, s_ofNat, s_plus, s_len, s_rd, s_set, s_eql, s_neq, s_lss, s_leq, s_gtr, s_geq, s_not, s_and, s_beq, s_add, s_sub, s_mul, s_wrap, s_diff, s_max, s_min, s_quo, s_rem, s_quo32, s_rem32, s_quo64, s_rem64, s_zerosI, s_cat, wi, wrap_u32', wrap_u64', wrap_u8', decide_eq_true_eq, decide_eq_false_iff_not, beq_iff_eq, beq_eq_false_iff_ne, bne_iff_ne, bne_eq_false_iff_eq, Bool.not_eq_true', Bool.not_eq_false', ne_eq, nc0, nc1, nc4, nc8, Int.toNat_natCast, Int.cast_ofNat_Int, Int.ofNat_eq_natCast, and_true, true_and, s_subL, s_shr32, s_shl32, s_or32]
  refine AWP.range k rfl (by decide) h_down1 (by decide) (by simp) (by simp) (by decide) ⟨_, _, _, _, rfl, ⟨rfl, rfl, rfl⟩, ⟨rfl, rfl, rfl⟩⟩ rfl
    (fun l hp => ∃ (q : LI) (r : Int), hp = [.cells [.int .u32 d], .row .u32 q, .cells [.osl 1 0 (A.len a)], .cells [.int .u32 r]] ∧ q.length = a.length ∧ (0 ≤ r ∧ r < d) ∧
      (l <+: downL a.length → r = ((V (4294967296 : Nat) a / (4294967296 : Nat) ^ (a.length - l.length) % d.toNat : Nat) : Int) ∧ ∀ j, a.length - l.length ≤ j → j < a.length → q.getD j 0 = ((V (4294967296 : Nat) a / d.toNat / (4294967296 : Nat) ^ j % (4294967296 : Nat) : Nat) : Int))) ?_ ?_ ?_
  · refine ⟨_, 0, rfl, by simp, ⟨Int.le_refl _, h0⟩, fun _ => ⟨?_, fun j h1 h2 => absurd h2 (by simp at h1; omega)⟩⟩
    have := V_lt da
    simp only [List.length_nil, Nat.sub_zero]
    rw [Nat.div_eq_of_lt this, Nat.zero_mod]; rfl
  · rintro hr l i hp hi ⟨q, r, rfl, h1, h2, h3⟩
    have di := da i
    have ts := top_step da i
    generalize hw : a.getD i 0 = w at di ts ⊢
    (refine RoundOk.go 100 [] ?_; (conv => { arg 1; cbv }); refine ⟨?_, ?_, ?_⟩; rotate_left; (focus (repeat' (first | exact trivial | exact (fun h => h) | (intro h; cases h; done) | refine ⟨?_, ?_⟩))); rotate_left; (try exact obs_nil))
    · subst_vars; simp (disch := omega) only [divP, obs_nil_iff, obs_cons_iff, s_ofNat, s_plus, s_len, s_rd, s_set, s_eql, s_neq, s_lss, s_leq, s_gtr, s_geq, s_not, s_and, s_beq, s_add, s_sub, s_mul, s_wrap, s_diff, s_max, s_min, s_quo, s_rem, s_quo32, s_rem32, s_quo64, s_rem64, s_zerosI, s_cat, wi, wrap_u32', wrap_u64', wrap_u8', decide_eq_true_eq, decide_eq_false_iff_not, beq_iff_eq, beq_eq_false_iff_ne, bne_iff_ne, bne_eq_false_iff_eq, Bool.not_eq_true', Bool.not_eq_false', ne_eq, nc0, nc1, nc4, nc8, Int.toNat_natCast, Int.cast_ofNat_Int, Int.ofNat_eq_natCast, and_true, true_and, s_subL, s_shr32, s_shl32, s_or32]; omega
    · refine ⟨q.set i (dq32 r w d), dr32 r w d, ?_, by simp [h1], ?_, fun hpre => ?_⟩
      · subst_vars; simp (disch := omega) only [obs_nil_iff, obs_cons_iff, s_ofNat, s_plus, s_len, s_rd, s_set, s_eql, s_neq, s_lss, s_leq, s_gtr, s_geq, s_not, s_and, s_beq, s_add, s_sub, s_mul, s_wrap, s_diff, s_max, s_min, s_quo, s_rem, s_quo32, s_rem32, s_quo64, s_rem64, s_zerosI, s_cat, wi, wrap_u32', wrap_u64', wrap_u8', decide_eq_true_eq, decide_eq_false_iff_not, beq_iff_eq, beq_eq_false_iff_ne, bne_iff_ne, bne_eq_false_iff_eq, Bool.not_eq_true', Bool.not_eq_false', ne_eq, nc0, nc1, nc4, nc8, Int.toNat_natCast, Int.cast_ofNat_Int, Int.ofNat_eq_natCast, and_true, true_and, s_subL, s_shr32, s_shl32, s_or32]; simp
      · unfold dr32; exact ⟨Int.emod_nonneg _ (by omega), Int.emod_lt_of_pos _ (by omega)⟩
      · obtain ⟨hp1, hp2, hp3⟩ := down_at hpre
        obtain ⟨hr1, hq⟩ := h3 hp3
        have e1 : a.length - (l ++ [i]).length = i := by simp; omega
        rw [e1]
        rw [show a.length - l.length = i + 1 by omega] at hr1 hq
        have st := div_step (H := V (4294967296 : Nat) a / (4294967296 : Nat) ^ (i + 1)) (w := w.toNat) (d := d.toNat) (by omega) (by omega)
        rw [← ts] at st
        have er : r.toNat = V (4294967296 : Nat) a / (4294967296 : Nat) ^ (i + 1) % d.toNat := by omega
        rw [← er] at st
        have eq1 : dq32 r w d = (((r.toNat * 4294967296 + w.toNat) / d.toNat : Nat) : Int) := by
          unfold dq32
          have : r * 4294967296 + w = ((r.toNat * 4294967296 + w.toNat : Nat) : Int) := by omega
          rw [this, show d = (d.toNat : Int) by omega, Int.toNat_natCast]; rfl
        have eq2 : dr32 r w d = (((r.toNat * 4294967296 + w.toNat) % d.toNat : Nat) : Int) := by
          unfold dr32
          have : r * 4294967296 + w = ((r.toNat * 4294967296 + w.toNat : Nat) : Int) := by omega
          rw [this, show d = (d.toNat : Int) by omega, Int.toNat_natCast]; rfl
        refine ⟨by rw [eq2, st.2], fun j hj1 hj2 => ?_⟩
        rw [getD_set (by omega)]
        by_cases hji : j = i
        · rw [if_pos hji, eq1, st.1, hji, Nat.div_div_eq_div_mul, Nat.mul_comm, ← Nat.div_div_eq_div_mul]
        · rw [if_neg hji]; exact hq j (by omega) hj2
  · rintro hp ⟨q, r, rfl, h1, h2, h3⟩
    obtain ⟨hr1, hq⟩ := h3 (List.prefix_refl _)
    dsimp only [sblock, sthen]
    rw [len_downL, Nat.sub_self] at hr1 hq
    have eq : q = fx (4294967296 : Nat) a.length (V (4294967296 : Nat) a / d.toNat) := list_ext (by rw [h1, fx_len]) fun j => by
      rw [fx_getD]
      split
      · exact hq j (Nat.zero_le _) (by assumption)
      · exact getD_big (by omega)
    have ev : V (4294967296 : Nat) q = V (4294967296 : Nat) a / d.toNat := by
      rw [eq, V_fx]
      exact Nat.mod_eq_of_lt (Nat.lt_of_le_of_lt (Nat.div_le_self _ _) (V_lt da))
    rw [Nat.pow_zero, Nat.div_one] at hr1
    (refine AWP.seq (AWP.go k 100 [] ?_); (conv => { arg 1; cbv }); refine ⟨?_, ?_⟩; rotate_left; (try dsimp only [sthen, sblock]); rotate_right; (try exact obs_nil))
    (refine AWP.go k 100 [] ?_; (conv => { arg 1; cbv }); refine ⟨?_, ?_⟩; rotate_left; (try dsimp only [sthen, sblock]); rotate_right; (try exact obs_nil))
    (refine ⟨fun id => by simp, ?_⟩; conv => { lhs; cbv })
    clear eq hq h3
    have er : V (4294967296 : Nat) a % d.toNat = r.toNat := by omega
    clear hr1
    rw [smQ, smR, ← ev, er]
    clear er ev
    subst_vars
    simp (disch := omega) only [trW, frW, Int.emod_eq_of_lt, obs_nil_iff, obs_cons_iff, s_ofNat, s_plus, s_len, s_rd, s_set, s_eql, s_neq, s_lss, s_leq, s_gtr, s_geq, s_not, s_and, s_beq, s_add, s_sub, s_mul, s_wrap, s_diff, s_max, s_min, s_quo, s_rem, s_quo32, s_rem32, s_quo64, s_rem64, s_zerosI, s_cat, wi, wrap_u32', wrap_u64', wrap_u8', decide_eq_true_eq, decide_eq_false_iff_not, beq_iff_eq, beq_eq_false_iff_ne, bne_iff_ne, bne_eq_false_iff_eq, Bool.not_eq_true', Bool.not_eq_false', ne_eq, nc0, nc1, nc4, nc8, Int.toNat_natCast, Int.cast_ofNat_Int, Int.ofNat_eq_natCast, and_true, true_and, s_subL, s_shr32, s_shl32, s_or32]
    congr 5
    simp [← h1]
theorem h_small : Holds Try.prog 56 (gSU_SSp stdAr smQ smR smP) := holds_SU_SSp fun a d ha hd hp => w_small _ rfl _ rfl _ rfl _ _ rfl rfl _ rfl ⟨h_trim, h_from, h_down, h_div32, trivial⟩ a d ha hd (of_decide_eq_true hp).1 (of_decide_eq_true hp).2
end Go.Proofs.SX

namespace Go.Proofs.SX
open Go Go.Proofs
set_option maxRecDepth 100000
set_option linter.unusedVariables false
set_option linter.unusedSimpArgs false
def diQ (a b : LI) : LI := if V (4294967296 : Nat) b = 0 then [] else W (V (4294967296 : Nat) a / V (4294967296 : Nat) b)
def diR (a b : LI) : LI := if V (4294967296 : Nat) b = 0 then [] else W (V (4294967296 : Nat) a % V (4294967296 : Nat) b)
def diE (a b : LI) : Int := if V (4294967296 : Nat) b = 0 then 1 else 0
theorem trW_len {a : LI} (da : Dg (4294967296 : Nat) a) : (trW a).length ≤ a.length := digs_len (by decide) (V_lt da)
theorem V_trW (a : LI) : V (4294967296 : Nat) (trW a) = V (4294967296 : Nat) a := V_digs (by decide) _
theorem d_trW (a : LI) : Dg (4294967296 : Nat) (trW a) := Dg.digs (by decide) _
theorem trW_nil {a : LI} : (trW a).length = 0 ↔ V (4294967296 : Nat) a = 0 := by
  constructor
  · intro h
    rw [← V_trW a, List.length_eq_zero_iff.1 h]; rfl
  · intro h
    unfold trW W; rw [h, digs_zero]; rfl
theorem w_div0 (A : Ar) (hA : A = stdAr) (tr : LI → LI) (htr : tr = trW) (cm : LI → LI → Int) (tp : LI → LI → Bool) (sq sr : LI → Int → LI) (sp : LI → Int → Bool) (hG : allHold Try.prog [(44, gS_S tr), (15, gSS_Ip cm tp), (56, gSU_SSp A sq sr sp)]) (a b : LI) (h : V (4294967296 : Nat) b = 0) : FCall Try.prog 30 [.sli .u32 a, .sli .u32 b] (.tup [.sli .u32 (diQ a b), .sli .u32 (diR a b), .int .i64 (diE a b)]) := by
  rw [diQ, diR, diE, if_pos h, if_pos h, if_pos h]
  refine FCall.nil3 (k := .u8) (q := .u8) ?_
  have := trW_nil.2 h
  (refine FCall.exec (ok_of hA hG) (fn := Try.f30) 100 [true] rfl rfl rfl (fun _ => ?_); (conv => { arg 1; cbv }); refine ⟨?_, ?_⟩; (try exact obs_nil))
  · (subst_vars; simp (disch := omega) only [obs_nil_iff, obs_cons_iff, s_ofNat, s_plus, s_len, s_rd, s_set, s_eql, s_neq, s_lss, s_leq, s_gtr, s_geq, s_not, s_and, s_beq, s_add, s_sub, s_mul, s_wrap, s_diff, s_max, s_min, s_quo, s_rem, s_quo32, s_rem32, s_quo64, s_rem64, s_zerosI, s_cat, wi, wrap_u32', wrap_u64', wrap_u8', decide_eq_true_eq, decide_eq_false_iff_not, beq_iff_eq, beq_eq_false_iff_ne, bne_iff_ne, bne_eq_false_iff_eq, Bool.not_eq_true', Bool.not_eq_false', ne_eq, nc0, nc1, nc4, nc8, Int.toNat_natCast, Int.cast_ofNat_Int, Int.ofNat_eq_natCast, and_true, true_and, s_subL, s_shr32, s_shl32, s_or32]; (repeat' apply And.intro) <;> first | trivial | omega)
  · subst_vars; rfl
theorem w_div1 (A : Ar) (hA : A = stdAr) (tr : LI → LI) (htr : tr = trW) (cm : LI → LI → Int) (hcm : cm = cmW) (tp : LI → LI → Bool) (htp : tp = trueP2) (sq sr : LI → Int → LI) (sp : LI → Int → Bool) (hG : allHold Try.prog [(44, gS_S tr), (15, gSS_Ip cm tp), (56, gSU_SSp A sq sr sp)]) (a b : LI) (ha : Nm .u32 a) (la : a.length ≤ 1048576) (h0 : V (4294967296 : Nat) b ≠ 0) (h : V (4294967296 : Nat) a < V (4294967296 : Nat) b) : FCall Try.prog 30 [.sli .u32 a, .sli .u32 b] (.tup [.sli .u32 (diQ a b), .sli .u32 (diR a b), .int .i64 (diE a b)]) := by
  rw [diQ, diR, diE, if_neg h0, if_neg h0, if_neg h0, Nat.div_eq_of_lt h, Nat.mod_eq_of_lt h, show W 0 = [] from digs_zero]
  refine FCall.nil2 (k := .u8) ?_
  have hn : (trW b).length ≠ 0 := fun h => h0 (trW_nil.1 h)
  have hl := trW_len (nm32 ha)
  have hc : cmW (trW a) (trW b) = -1 := by unfold cmW; rw [V_trW, V_trW]; exact cmV_lt h
  (refine FCall.exec (ok_of hA hG) (fn := Try.f30) 100 [false, true] rfl rfl rfl (fun _ => ?_); (conv => { arg 1; cbv }); refine ⟨?_, ?_⟩; (try exact obs_nil))
  · subst_vars; simp (disch := omega) only [hc, trueP2, obs_nil_iff, obs_cons_iff, s_ofNat, s_plus, s_len, s_rd, s_set, s_eql, s_neq, s_lss, s_leq, s_gtr, s_geq, s_not, s_and, s_beq, s_add, s_sub, s_mul, s_wrap, s_diff, s_max, s_min, s_quo, s_rem, s_quo32, s_rem32, s_quo64, s_rem64, s_zerosI, s_cat, wi, wrap_u32', wrap_u64', wrap_u8', decide_eq_true_eq, decide_eq_false_iff_not, beq_iff_eq, beq_eq_false_iff_ne, bne_iff_ne, bne_eq_false_iff_eq, Bool.not_eq_true', Bool.not_eq_false', ne_eq, nc0, nc1, nc4, nc8, Int.toNat_natCast, Int.cast_ofNat_Int, Int.ofNat_eq_natCast, and_true, true_and, s_subL, s_shr32, s_shl32, s_or32]; omega
  · subst_vars; rfl
theorem w_div2 (A : Ar) (hA : A = stdAr) (tr : LI → LI) (htr : tr = trW) (cm : LI → LI → Int) (hcm : cm = cmW) (tp : LI → LI → Bool) (htp : tp = trueP2) (sq sr : LI → Int → LI) (hsq : sq = smQ) (hsr : sr = smR) (sp : LI → Int → Bool) (hsp : sp = smP) (hG : allHold Try.prog [(44, gS_S tr), (15, gSS_Ip cm tp), (56, gSU_SSp A sq sr sp)]) (a b : LI) (ha : Nm .u32 a) (la : a.length ≤ 1048576) (h0 : V (4294967296 : Nat) b ≠ 0) (h : ¬ V (4294967296 : Nat) a < V (4294967296 : Nat) b) (h1 : V (4294967296 : Nat) b < (4294967296 : Nat)) : FCall Try.prog 30 [.sli .u32 a, .sli .u32 b] (.tup [.sli .u32 (diQ a b), .sli .u32 (diR a b), .int .i64 (diE a b)]) := by
  rw [diQ, diR, diE, if_neg h0, if_neg h0, if_neg h0]
  have hn : (trW b).length ≠ 0 := fun h => h0 (trW_nil.1 h)
  have hl := trW_len (nm32 ha)
  have hc : 0 ≤ cmW (trW a) (trW b) := by unfold cmW cmV; rw [V_trW, V_trW, if_neg h]; split <;> omega
  have e : trW b = [((V (4294967296 : Nat) b : Nat) : Int)] := by
    unfold trW W
    rw [digs_pos (by decide) h0, Nat.mod_eq_of_lt h1, Nat.div_eq_of_lt h1, digs_zero]
  rw [e] at hc
  (refine FCall.exec (ok_of hA hG) (fn := Try.f30) 100 [false, false, true] rfl rfl rfl (fun _ => ?_); (conv => { arg 1; cbv }); refine ⟨?_, ?_⟩; (try exact obs_nil))
  · subst_vars; simp (disch := omega) only [trueP2, e, smP, List.length_singleton, obs_nil_iff, obs_cons_iff, s_ofNat, s_plus, s_len, s_rd, s_set, s_eql, s_neq, s_lss, s_leq, s_gtr, s_geq, s_not, s_and, s_beq, s_add, s_sub, s_mul, s_wrap, s_diff, s_max, s_min, s_quo, s_rem, s_quo32, s_rem32, s_quo64, s_rem64, s_zerosI, s_cat, wi, wrap_u32', wrap_u64', wrap_u8', decide_eq_true_eq, decide_eq_false_iff_not, beq_iff_eq, beq_eq_false_iff_ne, bne_iff_ne, bne_eq_false_iff_eq, Bool.not_eq_true', Bool.not_eq_false', ne_eq, nc0, nc1, nc4, nc8, Int.toNat_natCast, Int.cast_ofNat_Int, Int.ofNat_eq_natCast, and_true, true_and, s_subL, s_shr32, s_shl32, s_or32]
    simp
    omega
  · subst_vars
    simp (disch := omega) only [smQ, smR, e, V_trW, obs_nil_iff, obs_cons_iff, s_ofNat, s_plus, s_len, s_rd, s_set, s_eql, s_neq, s_lss, s_leq, s_gtr, s_geq, s_not, s_and, s_beq, s_add, s_sub, s_mul, s_wrap, s_diff, s_max, s_min, s_quo, s_rem, s_quo32, s_rem32, s_quo64, s_rem64, s_zerosI, s_cat, wi, wrap_u32', wrap_u64', wrap_u8', decide_eq_true_eq, decide_eq_false_iff_not, beq_iff_eq, beq_eq_false_iff_ne, bne_iff_ne, bne_eq_false_iff_eq, Bool.not_eq_true', Bool.not_eq_false', ne_eq, nc0, nc1, nc4, nc8, Int.toNat_natCast, Int.cast_ofNat_Int, Int.ofNat_eq_natCast, and_true, true_and, s_subL, s_shr32, s_shl32, s_or32]
    simp
theorem w_divn (A : Ar) (hA : A = stdAr) (tr : LI → LI) (htr : tr = trW) (cm : LI → LI → Int) (hcm : cm = cmW) (tp : LI → LI → Bool) (htp : tp = trueP2) (sq sr : LI → Int → LI) (hsq : sq = smQ) (hsr : sr = smR) (sp : LI → Int → Bool) (hsp : sp = smP) (hG : allHold Try.prog [(44, gS_S tr), (15, gSS_Ip cm tp), (56, gSU_SSp A sq sr sp)]) (a b : LI) (ha : Nm .u32 a) (la : a.length ≤ 1048576) (h1 : V (4294967296 : Nat) b = 0 ∨ V (4294967296 : Nat) a < V (4294967296 : Nat) b ∨ V (4294967296 : Nat) b < (4294967296 : Nat)) : FCall Try.prog 30 [.sli .u32 a, .sli .u32 b] (.tup [.sli .u32 (diQ a b), .sli .u32 (diR a b), .int .i64 (diE a b)]) := by
  by_cases h0 : V (4294967296 : Nat) b = 0
  · exact w_div0 A hA tr htr cm tp sq sr sp hG a b h0
  by_cases h : V (4294967296 : Nat) a < V (4294967296 : Nat) b
  · exact w_div1 A hA tr htr cm hcm tp htp sq sr sp hG a b ha la h0 h
  · exact w_div2 A hA tr htr cm hcm tp htp sq sr hsq hsr sp hsp hG a b ha la h0 h (by omega)
def dnP (a b : LI) : Bool := decide (a.length ≤ 1048576 ∧ V (4294967296 : Nat) b < (4294967296 : Nat))
theorem h_divn : Holds Try.prog 30 (gSS_SSIp diQ diR diE dnP) := holds_SS_SSIp fun a b ha hb hp => w_divn _ rfl _ rfl _ rfl _ rfl _ _ rfl rfl _ rfl ⟨h_trim, h_cmp, h_small, trivial⟩ a b ha (of_decide_eq_true hp).1 (.inr (.inr (of_decide_eq_true hp).2))
end Go.Proofs.SX
