/- The walk: the law of there and back. Conditions: none. -/
import Derived.Test.YtmaegpgepcjcbaaNa5
set_option linter.all false
namespace Go.Proofs.SX
open Go Go.Proofs
set_option maxRecDepth 100000
set_option linter.unusedVariables false
set_option linter.unusedSimpArgs false
theorem eqs_refl {x : LI} : stdAr.eqs x x = true := by rw [s_eqs]; simp
theorem and63 (x : Int) : 0 ≤ stdAr.bin .and .i64 x 63 ∧ stdAr.bin .and .i64 x 63 ≤ 63 := by
  have h : (BitVec.ofInt 64 x &&& BitVec.ofInt 64 63).toNat ≤ 63 := by
    rw [BitVec.toNat_and]
    exact Nat.and_le_right
  have e : stdAr.bin .and .i64 x 63 = IntKind.wrap .i64 ((BitVec.ofInt 64 x &&& BitVec.ofInt 64 63).toNat : Int) := rfl
  rw [e, wi _ (by omega)]
  omega
section
variable {b : LI} (hb : Nm .u8 b) (lb : b.length ≤ 300) (h0 : b.length = 0 ∨ b.getD 0 0 ≠ 0)
theorem re_V : V (4294967296 : Nat) (reW b) = V 256 b.reverse := V_digs (by decide) _
theorem re_len {b : LI} (hb : Nm .u8 b) (lb : b.length ≤ 300) : (reW b).length ≤ 300 := by
  have := V_lt ((nm8 hb).reverse (by decide))
  refine Nat.le_trans (digs_len (b := (4294967296 : Nat)) (k := b.length) (by decide) (Nat.lt_of_lt_of_le this ?_)) lb
  rw [List.length_reverse]
  exact Nat.pow_le_pow_left (by decide) _
theorem re_Nm : Dg (4294967296 : Nat) (reW b) := Dg.digs (by decide) _
theorem bit_top8 {x : LI} (dx : Dg 256 x) (tx : Top x) (hx : x.length ≠ 0) : 8 * (x.length - 1) < bitLen (V 256 x) ∧ bitLen (V 256 x) ≤ 8 * x.length := by
  have ht : x.getD (x.length - 1) 0 ≠ 0 := tx.resolve_left hx
  have h2 := dx (x.length - 1)
  have hv : V 256 x = pre 256 x (x.length - 1) + (x.getD (x.length - 1) 0).toNat * 256 ^ (x.length - 1) := V_top (by omega) fun j hj => getD_big (by omega)
  have hge : 256 ^ (x.length - 1) ≤ V 256 x := by
    rw [hv]
    have : 1 * 256 ^ (x.length - 1) ≤ (x.getD (x.length - 1) 0).toNat * 256 ^ (x.length - 1) := Nat.mul_le_mul_right _ (by omega)
    omega
  have hlt := V_lt dx
  have hp : 0 < 256 ^ (x.length - 1) := Nat.pow_pos (by decide)
  have hne : V 256 x ≠ 0 := by omega
  unfold bitLen
  rw [if_neg hne]
  rw [show (256 : Nat) ^ (x.length - 1) = 2 ^ (8 * (x.length - 1)) by rw [Nat.pow_mul]] at hge
  rw [show (256 : Nat) ^ x.length = 2 ^ (8 * x.length) by rw [Nat.pow_mul]] at hlt
  have a1 := (Nat.log2_lt hne).2 hlt
  have a2 := (Nat.le_log2 hne).2 hge
  omega
theorem top_rev {b : LI} (h0 : b.length = 0 ∨ b.getD 0 0 ≠ 0) : Top b.reverse := by
  rcases h0 with h | h
  · exact .inl (by rw [List.length_reverse]; exact h)
  · by_cases hl : b.length = 0
    · exact .inl (by rw [List.length_reverse]; exact hl)
    · right
      rw [List.length_reverse, getD_rev (by omega), show b.length - 1 - (b.length - 1) = 0 by omega]
      exact h
theorem lg_re {b : LI} (hb : Nm .u8 b) (h0 : b.length = 0 ∨ b.getD 0 0 ≠ 0) : lgV (reW b) = b.length := by
  unfold lgV biV
  rw [re_V]
  by_cases hl : b.length = 0
  · rw [List.length_eq_zero_iff.1 hl]; rfl
  · have := bit_top8 ((nm8 hb).reverse (by decide)) (top_rev h0) (by rw [List.length_reverse]; exact hl)
    rw [List.length_reverse] at this
    omega
theorem by_re {b : LI} (hb : Nm .u8 b) (h0 : b.length = 0 ∨ b.getD 0 0 ≠ 0) : byV (reW b) = b := by
  unfold byV
  rw [lg_re hb h0, re_V, Int.toNat_natCast, beV]
  have := fx_of (b := 256) (w := b.reverse) (v := V 256 b.reverse) (by decide) ((nm8 hb).reverse (by decide)) (Nat.mod_eq_of_lt (V_lt ((nm8 hb).reverse (by decide)))).symm
  rw [List.length_reverse] at this
  rw [← this, List.reverse_reverse]
theorem re_la {b : LI} (hb : Nm .u8 b) {n : Nat} (hn : b.length ≤ n) : V (4294967296 : Nat) (reW (laV (reW b) n)) = V (4294967296 : Nat) (reW b) := by
  rw [re_V, re_V, laV, beV, List.reverse_reverse, V_fx, re_V, Int.toNat_natCast]
  refine Nat.mod_eq_of_lt (Nat.lt_of_lt_of_le (V_lt ((nm8 hb).reverse (by decide))) ?_)
  rw [List.length_reverse]
  exact Nat.pow_le_pow_right (by decide) hn
end
theorem w_backA (A : Ar) (hA : A = stdAr) (s1 : LI → Bool) (hs1 : s1 = sz1) (s1b : LI → Bool) (hs1b : s1b = sz1b) (sI : LI → Int → Bool) (hsI : sI = sz1I) (fb : LI → Int → LI) (hfb : fb = fiB) (fe : LI → Int → Int) (hfe : fe = fiE) (re : LI → LI) (hre : re = reW) (cm : LI → LI → Int) (hcm : cm = cmW) (tp : LI → LI → Bool) (htp : tp = trueP2) (by' : LI → LI) (hby : by' = byV)
    (hG : allHold Try.prog [(12, g0 (.bool true)), (24, gSI_BIp A fb fe sI), (26, gB_Sp re s1b), (28, gS_Bp by' s1), (15, gSS_Ip cm tp)]) (b : LI) (n : Int) (hb : Nm .u8 b) (c1 : ¬ 300 < b.length) (hl : b.length = 0) :
    FCall Try.prog 6 [.sli .u8 b, .int .i64 n] (.bool true) := by
  have k := ok_of hA hG
  have h0 : b.length = 0 ∨ b.getD 0 0 ≠ 0 := .inl hl
  obtain ⟨m, hm, hm0⟩ : ∃ m : Nat, stdAr.bin .and .i64 n 63 = (m : Int) ∧ m ≤ 63 := by
    have := and63 n
    exact ⟨(stdAr.bin .and .i64 n 63).toNat, by omega, by omega⟩
  have lg := lg_re hb h0
  have ln := re_len hb (by omega)
  have f1 : fiB (reW b) ((b.length : Int) + m) = laV (reW b) ((b.length + m : Nat) : Int) := by
    unfold fiB; rw [if_neg (by unfold fiNo; omega)]; congr 1
  have f2 : fiE (reW b) ((b.length : Int) + m) = 0 := by
    unfold fiE; rw [if_neg (by unfold fiNo; omega)]
  have f3 : fiE (reW b) ((b.length : Int) - 1) = 1 := by
    unfold fiE; rw [if_pos (by unfold fiNo; omega)]
  have f4 : byV (reW b) = b := by_re hb h0
  have f5 : (laV (reW b) ((b.length + m : Nat) : Int)).length = b.length + m := by unfold laV; rw [beV_len]; omega
  have f6 : cmW (reW (laV (reW b) ((b.length + m : Nat) : Int))) (reW b) = 0 := cmV_eq (re_la hb (by omega))
  have f7 : sz1b b = true := decide_eq_true (by omega)
  have f8 : sz1 (reW b) = true := decide_eq_true (by omega)
  have f9 : ∀ n, sz1I (reW b) n = true := fun n => decide_eq_true (by omega)
  have f10 : sz1b (laV (reW b) ((b.length + m : Nat) : Int)) = true := decide_eq_true (by rw [f5]; omega)
  have tp' : Top (reW b) := Top.digs (by decide) _
  obtain ⟨x, hx⟩ : ∃ x, x = re b := ⟨_, rfl⟩
  obtain ⟨kk, hkk⟩ : ∃ z, z = A.bin .and .i64 n (A.ofNat 63) := ⟨_, rfl⟩
  obtain ⟨f, hf⟩ : ∃ z, z = fb x (A.bin .add .i64 (A.len b) kk) := ⟨_, rfl⟩
  obtain ⟨e, he⟩ : ∃ z, z = fe x (A.bin .add .i64 (A.len b) kk) := ⟨_, rfl⟩
  obtain ⟨g, hg⟩ : ∃ z, z = fe x (A.bin .sub .i64 (A.len b) (A.ofNat 1)) := ⟨_, rfl⟩
  have hkk' : kk = (m : Int) := by rw [hkk, hA]; exact hm
  have hadd : A.bin .add .i64 (A.len b) kk = (b.length : Int) + m := by rw [hkk', hA]; simp (disch := omega) only [obs_nil_iff, obs_cons_iff, s_ofNat, s_plus, s_len, s_rd, s_set, s_eql, s_neq, s_lss, s_leq, s_gtr, s_geq, s_not, s_and, s_beq, s_add, s_sub, s_mul, s_wrap, s_diff, s_max, s_min, s_quo, s_rem, s_quo32, s_rem32, s_quo64, s_rem64, s_zerosI, s_cat, wi, wrap_u32', wrap_u64', wrap_u8', decide_eq_true_eq, decide_eq_false_iff_not, beq_iff_eq, beq_eq_false_iff_ne, bne_iff_ne, bne_eq_false_iff_eq, Bool.not_eq_true', Bool.not_eq_false', ne_eq, nc0, nc1, nc4, nc8, Int.toNat_natCast, Int.cast_ofNat_Int, Int.ofNat_eq_natCast, and_true, true_and, s_subL, s_shr32, s_shl32, s_or32]
  have hadd3 : A.bin .add .i64 (b.length : Int) kk = (b.length : Int) + m := by rw [hkk', hA]; simp (disch := omega) only [obs_nil_iff, obs_cons_iff, s_ofNat, s_plus, s_len, s_rd, s_set, s_eql, s_neq, s_lss, s_leq, s_gtr, s_geq, s_not, s_and, s_beq, s_add, s_sub, s_mul, s_wrap, s_diff, s_max, s_min, s_quo, s_rem, s_quo32, s_rem32, s_quo64, s_rem64, s_zerosI, s_cat, wi, wrap_u32', wrap_u64', wrap_u8', decide_eq_true_eq, decide_eq_false_iff_not, beq_iff_eq, beq_eq_false_iff_ne, bne_iff_ne, bne_eq_false_iff_eq, Bool.not_eq_true', Bool.not_eq_false', ne_eq, nc0, nc1, nc4, nc8, Int.toNat_natCast, Int.cast_ofNat_Int, Int.ofNat_eq_natCast, and_true, true_and, s_subL, s_shr32, s_shl32, s_or32]
  have hx' : x = reW b := by rw [hx, hre]
  have hf' : f = laV (reW b) ((b.length + m : Nat) : Int) := by rw [hf, hadd, hfb, hx', f1]
  have he' : e = 0 := by rw [he, hadd, hfe, hx', f2]
  have hg' : g = 1 := by
    rw [hg, hA, hfe, hx']
    simp (disch := omega) only [obs_nil_iff, obs_cons_iff, s_ofNat, s_plus, s_len, s_rd, s_set, s_eql, s_neq, s_lss, s_leq, s_gtr, s_geq, s_not, s_and, s_beq, s_add, s_sub, s_mul, s_wrap, s_diff, s_max, s_min, s_quo, s_rem, s_quo32, s_rem32, s_quo64, s_rem64, s_zerosI, s_cat, wi, wrap_u32', wrap_u64', wrap_u8', decide_eq_true_eq, decide_eq_false_iff_not, beq_iff_eq, beq_eq_false_iff_ne, bne_iff_ne, bne_eq_false_iff_eq, Bool.not_eq_true', Bool.not_eq_false', ne_eq, nc0, nc1, nc4, nc8, Int.toNat_natCast, Int.cast_ofNat_Int, Int.ofNat_eq_natCast, and_true, true_and, s_subL, s_shr32, s_shl32, s_or32]
    exact f3
  have o1 : s1 x = true := by rw [hs1, hx']; exact f8
  have o2 : s1b f = true := by rw [hs1b, hf']; exact f10
  have o3 : by' x = b := by rw [hby, hx']; exact f4
  have o4 : cm (re f) x = 0 := by rw [hcm, hre, hf', hx']; exact f6
  have o5 : f.length = b.length + m := by rw [hf']; exact f5
  refine FCall.of_body k (fn := Try.f6) rfl rfl rfl rfl (fun _ => ?_)
  (refine AWP.seq (AWP.go k 100 [] ?_); (conv => { arg 1; cbv }); refine ⟨?_, ?_⟩; rotate_left; (try dsimp only [sthen, sblock]); rotate_right; (try exact obs_nil))
  refine AWP.seq ?_
  have e0 : x.length = 0 := by
    rw [hx']
    unfold reW W
    rw [List.length_eq_zero_iff.1 hl, show V 256 (List.reverse ([] : LI)) = 0 from rfl, digs_zero]; rfl
  (refine AWP.go k 100 (List.replicate 11 false) ?_; (conv => { arg 1; cbv }); refine ⟨?_, ?_⟩; rotate_left; (try dsimp only [sthen, sblock]); rotate_right; (try exact obs_nil))
  · (subst_vars; simp (disch := omega) only [obs_nil_iff, obs_cons_iff, s_ofNat, s_plus, s_len, s_rd, s_set, s_eql, s_neq, s_lss, s_leq, s_gtr, s_geq, s_not, s_and, s_beq, s_add, s_sub, s_mul, s_wrap, s_diff, s_max, s_min, s_quo, s_rem, s_quo32, s_rem32, s_quo64, s_rem64, s_zerosI, s_cat, wi, wrap_u32', wrap_u64', wrap_u8', decide_eq_true_eq, decide_eq_false_iff_not, beq_iff_eq, beq_eq_false_iff_ne, bne_iff_ne, bne_eq_false_iff_eq, Bool.not_eq_true', Bool.not_eq_false', ne_eq, nc0, nc1, nc4, nc8, Int.toNat_natCast, Int.cast_ofNat_Int, Int.ofNat_eq_natCast, and_true, true_and, s_subL, s_shr32, s_shl32, s_or32]; (repeat' apply And.intro) <;> first | trivial | omega)
  (refine AWP.seq (AWP.go k 100 [] ?_); (conv => { arg 1; cbv }); refine ⟨?_, ?_⟩; rotate_left; (try dsimp only [sthen, sblock]); rotate_right; (try exact obs_nil))
  · subst hs1b hA; simp only [obs_nil_iff, obs_cons_iff, f7, and_true]
  (refine AWP.seq (AWP.go k 100 [] ?_); (conv => { arg 1; cbv }); refine ⟨?_, ?_⟩; rotate_left; (try dsimp only [sthen, sblock]); rotate_right; (try exact obs_nil))
  (refine AWP.seq (AWP.go k 100 [] ?_); (conv => { arg 1; cbv }); refine ⟨?_, ?_⟩; rotate_left; (try dsimp only [sthen, sblock]); rotate_right; (try exact obs_nil))
  · subst hsI hre; simp only [obs_nil_iff, obs_cons_iff, f9, and_true]
  (refine AWP.seq (AWP.go k 100 [] ?_); (conv => { arg 1; cbv }); refine ⟨?_, ?_⟩; rotate_left; (try dsimp only [sthen, sblock]); rotate_right; (try exact obs_nil))
  · subst hsI hre; simp only [obs_nil_iff, obs_cons_iff, f9, and_true]
  refine AWP.le (s' := ⟨mkF [(0, .sli .u8 b), (5, .sli .u32 x), (6, .int .i64 kk), (7, .sli .u8 f), (8, .int .i64 e), (10, .int .i64 g)] 94 0, []⟩) ?_ ?_
  · subst hf he hg hkk hx
    (refine ⟨?_, ?_, rfl⟩ <;> repeat' (first | exact .nil | exact .any _ | exact .gone _ | exact .same _ | exact .lit _ _ | exact .nil _ | refine .cons ?_ ?_ | exact AvLe.int_eq (by first | rfl | (simp only [Int.ofNat_eq_natCast]; omega) | omega) | exact AvLe.lit_eq (by first | rfl | (simp only [Int.ofNat_eq_natCast]; omega) | omega) | exact AvLe.osl_eq (by first | rfl | (simp only [Int.ofNat_eq_natCast]; omega) | omega) (by first | rfl | (simp only [Int.ofNat_eq_natCast]; omega) | omega | (simp; done) | (simp; omega)) | refine BlLe.row_eq ?_))
  clear hf he hg hkk hx
  (refine AWP.seq (AWP.go k 100 (List.replicate 60 true) ?_); (conv => { arg 1; cbv }); refine ⟨?_, ?_⟩; rotate_left; (try dsimp only [sthen, sblock]); rotate_right; (try exact obs_nil))
  · subst hA htp
    simp only [obs_nil_iff, obs_cons_iff, o1, o2, o3, o4, o5, he', hg', hadd3, e0, s_len, s_eql, s_ofNat, trueP2, eqs_refl, and_true, true_and]
    simp
  (refine AWP.go k 100 [] ?_; (conv => { arg 1; cbv }); refine ⟨?_, ?_⟩; rotate_left; (try dsimp only [sthen, sblock]); rotate_right; (try exact obs_nil))
  (refine ⟨fun id => by simp, ?_⟩; conv => { lhs; cbv })
theorem w_backB (A : Ar) (hA : A = stdAr) (s1 : LI → Bool) (hs1 : s1 = sz1) (s1b : LI → Bool) (hs1b : s1b = sz1b) (sI : LI → Int → Bool) (hsI : sI = sz1I) (fb : LI → Int → LI) (hfb : fb = fiB) (fe : LI → Int → Int) (hfe : fe = fiE) (re : LI → LI) (hre : re = reW) (cm : LI → LI → Int) (hcm : cm = cmW) (tp : LI → LI → Bool) (htp : tp = trueP2) (by' : LI → LI) (hby : by' = byV)
    (hG : allHold Try.prog [(12, g0 (.bool true)), (24, gSI_BIp A fb fe sI), (26, gB_Sp re s1b), (28, gS_Bp by' s1), (15, gSS_Ip cm tp)]) (b : LI) (n : Int) (hb : Nm .u8 b) (c1 : ¬ 300 < b.length) (hl : b.length ≠ 0) (h00 : b.getD 0 0 ≠ 0) :
    FCall Try.prog 6 [.sli .u8 b, .int .i64 n] (.bool true) := by
  have k := ok_of hA hG
  have h0 : b.length = 0 ∨ b.getD 0 0 ≠ 0 := .inr h00
  obtain ⟨m, hm, hm0⟩ : ∃ m : Nat, stdAr.bin .and .i64 n 63 = (m : Int) ∧ m ≤ 63 := by
    have := and63 n
    exact ⟨(stdAr.bin .and .i64 n 63).toNat, by omega, by omega⟩
  have lg := lg_re hb h0
  have ln := re_len hb (by omega)
  have f1 : fiB (reW b) ((b.length : Int) + m) = laV (reW b) ((b.length + m : Nat) : Int) := by
    unfold fiB; rw [if_neg (by unfold fiNo; omega)]; congr 1
  have f2 : fiE (reW b) ((b.length : Int) + m) = 0 := by
    unfold fiE; rw [if_neg (by unfold fiNo; omega)]
  have f3 : fiE (reW b) ((b.length : Int) - 1) = 1 := by
    unfold fiE; rw [if_pos (by unfold fiNo; omega)]
  have f4 : byV (reW b) = b := by_re hb h0
  have f5 : (laV (reW b) ((b.length + m : Nat) : Int)).length = b.length + m := by unfold laV; rw [beV_len]; omega
  have f6 : cmW (reW (laV (reW b) ((b.length + m : Nat) : Int))) (reW b) = 0 := cmV_eq (re_la hb (by omega))
  have f7 : sz1b b = true := decide_eq_true (by omega)
  have f8 : sz1 (reW b) = true := decide_eq_true (by omega)
  have f9 : ∀ n, sz1I (reW b) n = true := fun n => decide_eq_true (by omega)
  have f10 : sz1b (laV (reW b) ((b.length + m : Nat) : Int)) = true := decide_eq_true (by rw [f5]; omega)
  have tp' : Top (reW b) := Top.digs (by decide) _
  obtain ⟨x, hx⟩ : ∃ x, x = re b := ⟨_, rfl⟩
  obtain ⟨kk, hkk⟩ : ∃ z, z = A.bin .and .i64 n (A.ofNat 63) := ⟨_, rfl⟩
  obtain ⟨f, hf⟩ : ∃ z, z = fb x (A.bin .add .i64 (A.len b) kk) := ⟨_, rfl⟩
  obtain ⟨e, he⟩ : ∃ z, z = fe x (A.bin .add .i64 (A.len b) kk) := ⟨_, rfl⟩
  obtain ⟨g, hg⟩ : ∃ z, z = fe x (A.bin .sub .i64 (A.len b) (A.ofNat 1)) := ⟨_, rfl⟩
  have hkk' : kk = (m : Int) := by rw [hkk, hA]; exact hm
  have hadd : A.bin .add .i64 (A.len b) kk = (b.length : Int) + m := by rw [hkk', hA]; simp (disch := omega) only [obs_nil_iff, obs_cons_iff, s_ofNat, s_plus, s_len, s_rd, s_set, s_eql, s_neq, s_lss, s_leq, s_gtr, s_geq, s_not, s_and, s_beq, s_add, s_sub, s_mul, s_wrap, s_diff, s_max, s_min, s_quo, s_rem, s_quo32, s_rem32, s_quo64, s_rem64, s_zerosI, s_cat, wi, wrap_u32', wrap_u64', wrap_u8', decide_eq_true_eq, decide_eq_false_iff_not, beq_iff_eq, beq_eq_false_iff_ne, bne_iff_ne, bne_eq_false_iff_eq, Bool.not_eq_true', Bool.not_eq_false', ne_eq, nc0, nc1, nc4, nc8, Int.toNat_natCast, Int.cast_ofNat_Int, Int.ofNat_eq_natCast, and_true, true_and, s_subL, s_shr32, s_shl32, s_or32]
  have hadd3 : A.bin .add .i64 (b.length : Int) kk = (b.length : Int) + m := by rw [hkk', hA]; simp (disch := omega) only [obs_nil_iff, obs_cons_iff, s_ofNat, s_plus, s_len, s_rd, s_set, s_eql, s_neq, s_lss, s_leq, s_gtr, s_geq, s_not, s_and, s_beq, s_add, s_sub, s_mul, s_wrap, s_diff, s_max, s_min, s_quo, s_rem, s_quo32, s_rem32, s_quo64, s_rem64, s_zerosI, s_cat, wi, wrap_u32', wrap_u64', wrap_u8', decide_eq_true_eq, decide_eq_false_iff_not, beq_iff_eq, beq_eq_false_iff_ne, bne_iff_ne, bne_eq_false_iff_eq, Bool.not_eq_true', Bool.not_eq_false', ne_eq, nc0, nc1, nc4, nc8, Int.toNat_natCast, Int.cast_ofNat_Int, Int.ofNat_eq_natCast, and_true, true_and, s_subL, s_shr32, s_shl32, s_or32]
  have hx' : x = reW b := by rw [hx, hre]
  have hf' : f = laV (reW b) ((b.length + m : Nat) : Int) := by rw [hf, hadd, hfb, hx', f1]
  have he' : e = 0 := by rw [he, hadd, hfe, hx', f2]
  have hg' : g = 1 := by
    rw [hg, hA, hfe, hx']
    simp (disch := omega) only [obs_nil_iff, obs_cons_iff, s_ofNat, s_plus, s_len, s_rd, s_set, s_eql, s_neq, s_lss, s_leq, s_gtr, s_geq, s_not, s_and, s_beq, s_add, s_sub, s_mul, s_wrap, s_diff, s_max, s_min, s_quo, s_rem, s_quo32, s_rem32, s_quo64, s_rem64, s_zerosI, s_cat, wi, wrap_u32', wrap_u64', wrap_u8', decide_eq_true_eq, decide_eq_false_iff_not, beq_iff_eq, beq_eq_false_iff_ne, bne_iff_ne, bne_eq_false_iff_eq, Bool.not_eq_true', Bool.not_eq_false', ne_eq, nc0, nc1, nc4, nc8, Int.toNat_natCast, Int.cast_ofNat_Int, Int.ofNat_eq_natCast, and_true, true_and, s_subL, s_shr32, s_shl32, s_or32]
    exact f3
  have o1 : s1 x = true := by rw [hs1, hx']; exact f8
  have o2 : s1b f = true := by rw [hs1b, hf']; exact f10
  have o3 : by' x = b := by rw [hby, hx']; exact f4
  have o4 : cm (re f) x = 0 := by rw [hcm, hre, hf', hx']; exact f6
  have o5 : f.length = b.length + m := by rw [hf']; exact f5
  refine FCall.of_body k (fn := Try.f6) rfl rfl rfl rfl (fun _ => ?_)
  (refine AWP.seq (AWP.go k 100 [] ?_); (conv => { arg 1; cbv }); refine ⟨?_, ?_⟩; rotate_left; (try dsimp only [sthen, sblock]); rotate_right; (try exact obs_nil))
  refine AWP.seq ?_
  have e0 : x.length ≠ 0 := by
    rw [hx']
    intro h
    have h1 : V (4294967296 : Nat) (reW b) = 0 := by rw [List.length_eq_zero_iff.1 h]; rfl
    rw [re_V] at h1
    have := V_eq_zero (by decide) ((nm8 hb).reverse (by decide)) h1 (b.length - 1)
    rw [getD_rev (by omega), show b.length - 1 - (b.length - 1) = 0 by omega] at this
    exact h00 this
  have e1 : x.getD (x.length - 1) 0 ≠ 0 := by rw [hx'] at e0 ⊢; exact tp'.resolve_left e0
  have e2 : ((x.length : Int) - 1).toNat = x.length - 1 := by omega
  have lx : x.length ≤ 300 := by rw [hx']; exact ln
  (refine AWP.go k 100 [false, false, false, false, true, true, true, true, false, true, false, false] ?_; (conv => { arg 1; cbv }); refine ⟨?_, ?_⟩; rotate_left; (try dsimp only [sthen, sblock]); rotate_right; (try exact obs_nil))
  · subst hA; simp (disch := omega) only [obs_nil_iff, obs_cons_iff, s_ofNat, s_plus, s_len, s_rd, s_set, s_eql, s_neq, s_lss, s_leq, s_gtr, s_geq, s_not, s_and, s_beq, s_add, s_sub, s_mul, s_wrap, s_diff, s_max, s_min, s_quo, s_rem, s_quo32, s_rem32, s_quo64, s_rem64, s_zerosI, s_cat, wi, wrap_u32', wrap_u64', wrap_u8', decide_eq_true_eq, decide_eq_false_iff_not, beq_iff_eq, beq_eq_false_iff_ne, bne_iff_ne, bne_eq_false_iff_eq, Bool.not_eq_true', Bool.not_eq_false', ne_eq, nc0, nc1, nc4, nc8, Int.toNat_natCast, Int.cast_ofNat_Int, Int.ofNat_eq_natCast, and_true, true_and, s_subL, s_shr32, s_shl32, s_or32]
    simp only [Int.toNat_zero, h00, not_false_eq_true, true_and, and_true]
    omega
  (refine AWP.seq (AWP.go k 100 [] ?_); (conv => { arg 1; cbv }); refine ⟨?_, ?_⟩; rotate_left; (try dsimp only [sthen, sblock]); rotate_right; (try exact obs_nil))
  · subst hs1b hA; simp only [obs_nil_iff, obs_cons_iff, f7, and_true]
  (refine AWP.seq (AWP.go k 100 [] ?_); (conv => { arg 1; cbv }); refine ⟨?_, ?_⟩; rotate_left; (try dsimp only [sthen, sblock]); rotate_right; (try exact obs_nil))
  (refine AWP.seq (AWP.go k 100 [] ?_); (conv => { arg 1; cbv }); refine ⟨?_, ?_⟩; rotate_left; (try dsimp only [sthen, sblock]); rotate_right; (try exact obs_nil))
  · subst hsI hre; simp only [obs_nil_iff, obs_cons_iff, f9, and_true]
  (refine AWP.seq (AWP.go k 100 [] ?_); (conv => { arg 1; cbv }); refine ⟨?_, ?_⟩; rotate_left; (try dsimp only [sthen, sblock]); rotate_right; (try exact obs_nil))
  · subst hsI hre; simp only [obs_nil_iff, obs_cons_iff, f9, and_true]
  refine AWP.le (s' := ⟨mkF [(0, .sli .u8 b), (5, .sli .u32 x), (6, .int .i64 kk), (7, .sli .u8 f), (8, .int .i64 e), (10, .int .i64 g)] 94 0, []⟩) ?_ ?_
  · subst hf he hg hkk hx
    (refine ⟨?_, ?_, rfl⟩ <;> repeat' (first | exact .nil | exact .any _ | exact .gone _ | exact .same _ | exact .lit _ _ | exact .nil _ | refine .cons ?_ ?_ | exact AvLe.int_eq (by first | rfl | (simp only [Int.ofNat_eq_natCast]; omega) | omega) | exact AvLe.lit_eq (by first | rfl | (simp only [Int.ofNat_eq_natCast]; omega) | omega) | exact AvLe.osl_eq (by first | rfl | (simp only [Int.ofNat_eq_natCast]; omega) | omega) (by first | rfl | (simp only [Int.ofNat_eq_natCast]; omega) | omega | (simp; done) | (simp; omega)) | refine BlLe.row_eq ?_))
  clear hf he hg hkk hx
  (refine AWP.seq (AWP.go k 100 (List.replicate 31 true ++ List.replicate 7 false ++ [true, false, true]) ?_); (conv => { arg 1; cbv }); refine ⟨?_, ?_⟩; rotate_left; (try dsimp only [sthen, sblock]); rotate_right; (try exact obs_nil))
  · subst hA htp
    simp only [obs_nil_iff, obs_cons_iff, o1, o2, o3, o4, o5, he', hg', hadd3, e0, s_len, trueP2, eqs_refl, and_true, true_and]
    simp (disch := omega) only [o5, obs_nil_iff, obs_cons_iff, s_ofNat, s_plus, s_len, s_rd, s_set, s_eql, s_neq, s_lss, s_leq, s_gtr, s_geq, s_not, s_and, s_beq, s_add, s_sub, s_mul, s_wrap, s_diff, s_max, s_min, s_quo, s_rem, s_quo32, s_rem32, s_quo64, s_rem64, s_zerosI, s_cat, wi, wrap_u32', wrap_u64', wrap_u8', decide_eq_true_eq, decide_eq_false_iff_not, beq_iff_eq, beq_eq_false_iff_ne, bne_iff_ne, bne_eq_false_iff_eq, Bool.not_eq_true', Bool.not_eq_false', ne_eq, nc0, nc1, nc4, nc8, Int.toNat_natCast, Int.cast_ofNat_Int, Int.ofNat_eq_natCast, and_true, true_and, s_subL, s_shr32, s_shl32, s_or32]
    (repeat' apply And.intro) <;> first | trivial | omega
  (refine AWP.go k 100 [] ?_; (conv => { arg 1; cbv }); refine ⟨?_, ?_⟩; rotate_left; (try dsimp only [sthen, sblock]); rotate_right; (try exact obs_nil))
  (refine ⟨fun id => by simp, ?_⟩; conv => { lhs; cbv })
  subst hA
  simp (disch := omega) only [e2, obs_nil_iff, obs_cons_iff, s_ofNat, s_plus, s_len, s_rd, s_set, s_eql, s_neq, s_lss, s_leq, s_gtr, s_geq, s_not, s_and, s_beq, s_add, s_sub, s_mul, s_wrap, s_diff, s_max, s_min, s_quo, s_rem, s_quo32, s_rem32, s_quo64, s_rem64, s_zerosI, s_cat, wi, wrap_u32', wrap_u64', wrap_u8', decide_eq_true_eq, decide_eq_false_iff_not, beq_iff_eq, beq_eq_false_iff_ne, bne_iff_ne, bne_eq_false_iff_eq, Bool.not_eq_true', Bool.not_eq_false', ne_eq, nc0, nc1, nc4, nc8, Int.toNat_natCast, Int.cast_ofNat_Int, Int.ofNat_eq_natCast, and_true, true_and, s_subL, s_shr32, s_shl32, s_or32]
  rw [bne_iff_ne.2 e1]
theorem w_back (A : Ar) (hA : A = stdAr) (s1 : LI → Bool) (hs1 : s1 = sz1) (s1b : LI → Bool) (hs1b : s1b = sz1b) (sI : LI → Int → Bool) (hsI : sI = sz1I) (fb : LI → Int → LI) (hfb : fb = fiB) (fe : LI → Int → Int) (hfe : fe = fiE) (re : LI → LI) (hre : re = reW) (cm : LI → LI → Int) (hcm : cm = cmW) (tp : LI → LI → Bool) (htp : tp = trueP2) (by' : LI → LI) (hby : by' = byV)
    (hG : allHold Try.prog [(12, g0 (.bool true)), (24, gSI_BIp A fb fe sI), (26, gB_Sp re s1b), (28, gS_Bp by' s1), (15, gSS_Ip cm tp)]) (b : LI) (n : Int) (hb : Nm .u8 b) :
    FCall Try.prog 6 [.sli .u8 b, .int .i64 n] (.bool true) := by
  have k := ok_of hA hG
  by_cases c1 : 300 < b.length
  · (refine FCall.exec k (fn := Try.f6) 100 (List.replicate 20 true) rfl rfl rfl (fun _ => ?_); (conv => { arg 1; cbv }); refine ⟨?_, ?_⟩; (try exact obs_nil))
    · (subst_vars; simp (disch := omega) only [obs_nil_iff, obs_cons_iff, s_ofNat, s_plus, s_len, s_rd, s_set, s_eql, s_neq, s_lss, s_leq, s_gtr, s_geq, s_not, s_and, s_beq, s_add, s_sub, s_mul, s_wrap, s_diff, s_max, s_min, s_quo, s_rem, s_quo32, s_rem32, s_quo64, s_rem64, s_zerosI, s_cat, wi, wrap_u32', wrap_u64', wrap_u8', decide_eq_true_eq, decide_eq_false_iff_not, beq_iff_eq, beq_eq_false_iff_ne, bne_iff_ne, bne_eq_false_iff_eq, Bool.not_eq_true', Bool.not_eq_false', ne_eq, nc0, nc1, nc4, nc8, Int.toNat_natCast, Int.cast_ofNat_Int, Int.ofNat_eq_natCast, and_true, true_and, s_subL, s_shr32, s_shl32, s_or32]; (repeat' apply And.intro) <;> first | trivial | omega)
    · rfl
  by_cases c2 : 0 < b.length ∧ b.getD 0 0 = 0
  · have c20 := c2.2
    (refine FCall.exec k (fn := Try.f6) 100 [false, false, false, false, true, true, true, true, false, true, false, true] rfl rfl rfl (fun _ => ?_); (conv => { arg 1; cbv }); refine ⟨?_, ?_⟩; (try exact obs_nil))
    · subst_vars; simp (disch := omega) only [obs_nil_iff, obs_cons_iff, s_ofNat, s_plus, s_len, s_rd, s_set, s_eql, s_neq, s_lss, s_leq, s_gtr, s_geq, s_not, s_and, s_beq, s_add, s_sub, s_mul, s_wrap, s_diff, s_max, s_min, s_quo, s_rem, s_quo32, s_rem32, s_quo64, s_rem64, s_zerosI, s_cat, wi, wrap_u32', wrap_u64', wrap_u8', decide_eq_true_eq, decide_eq_false_iff_not, beq_iff_eq, beq_eq_false_iff_ne, bne_iff_ne, bne_eq_false_iff_eq, Bool.not_eq_true', Bool.not_eq_false', ne_eq, nc0, nc1, nc4, nc8, Int.toNat_natCast, Int.cast_ofNat_Int, Int.ofNat_eq_natCast, and_true, true_and, s_subL, s_shr32, s_shl32, s_or32]
      simp only [Int.toNat_zero, c20, true_and, and_true]
      omega
    · rfl
  have h0 : b.length = 0 ∨ b.getD 0 0 ≠ 0 := by
    by_cases hl : b.length = 0
    · exact .inl hl
    · exact .inr fun h => c2 ⟨by omega, h⟩
  by_cases hl : b.length = 0
  · exact w_backA A hA s1 hs1 s1b hs1b sI hsI fb hfb fe hfe re hre cm hcm tp htp by' hby hG b n hb c1 hl
  · exact w_backB A hA s1 hs1 s1b hs1b sI hsI fb hfb fe hfe re hre cm hcm tp htp by' hby hG b n hb c1 hl (h0.resolve_left hl)
theorem backCall (b : LI) (n : Int) : FCall Try.prog 6 [.sli .u8 b, .int .i64 n] (.bool true) :=
  FCall.known fun hk => w_back stdAr rfl sz1 rfl sz1b rfl sz1I rfl fiB rfl fiE rfl reW rfl cmW rfl trueP2 rfl byV rfl ⟨h_alive, h_fill, h_read, h_bytes, h_cmp, trivial⟩ b n (known_sli hk).1
end Go.Proofs.SX
