/- Parts of a proof. Conditions: none. -/
import Derived.Test.YtogghagoilhieaaSx3
import Derived.Test.YtogghagoilhieaaProg
set_option linter.all false
namespace Go.Proofs.SX
open Go Go.Proofs
set_option maxRecDepth 100000
def eTys : List (TypeId × Sh) := [(23, .int .u64), (3, .int .i64), (5, .int .u8), (37, .int .u64), (4, .bool), (24, .arr 4 .u64), (25, .arr 4 .u64), (22, .arr 32 .u8), (65, .arr 16 .u64), (67, .arr 8 .u64), (63, .sl .u8), (26, .st [.arr 4 .u64, .arr 4 .u64]), (27, .st [.arr 4 .u64, .arr 4 .u64]), (49, .st [.arr 4 .u64, .arr 4 .u64, .arr 4 .u64, .arr 4 .u64]), (50, .st [.arr 4 .u64, .arr 4 .u64, .arr 4 .u64, .arr 4 .u64])]
theorem eTys_ok : ∀ t, TyOk Try.prog t (tyTab eTys t) := tys_ok (by kernel_rfl)
end Go.Proofs.SX

namespace Go.Proofs.SX
open Go Go.Proofs
set_option maxRecDepth 100000
set_option linter.unusedVariables false
set_option linter.unusedSimpArgs false

theorem ok_of {l : List (FuncId × (List AV → Option (AV × Ob)))} {A : Ar} (hA : A = stdAr) (hG : allHold Try.prog l) : COk Try.prog ⟨false, A, tyTab eTys, cTab l⟩ := ⟨by kernel_rfl, hA, eTys_ok, cs_ok hG⟩

theorem h59 : Holds Try.prog 59 (gCarry stdAr adV caV) := holds_add64 (fn := Try.f59) rfl rfl rfl (by kernel_rfl) rfl
theorem h58 : Holds Try.prog 58 (gCarry stdAr sbV boV) := holds_sub64 (fn := Try.f58) rfl rfl rfl (by kernel_rfl) rfl

theorem caV_le {x y c : Int} (hx : x < 18446744073709551616) (hy : y < 18446744073709551616) (hc : c ≤ 1) : caV x y c ≤ 1 := by unfold caV; omega
theorem boV_le {x y c : Int} : boV x y c ≤ 1 := by unfold boV; split <;> omega

def plE (a b : LI) : LI := enc4 ((val a + val b) % 115792089237316195423570985008687907853269984665640564039457584007913129639936)
def plC (a b : LI) : Int := (val a + val b) / 115792089237316195423570985008687907853269984665640564039457584007913129639936
def mnE (a b : LI) : LI := enc4 ((val a - val b) % 115792089237316195423570985008687907853269984665640564039457584007913129639936)
def mnC (a b : LI) : Int := if val a < val b then 1 else 0

theorem w45 (A : Ar) (hA : A = stdAr) (ad ca : Int → Int → Int → Int) (had : ad = adV) (hca : ca = caV) (hG : allHold Try.prog [(59, gCarry A ad ca)]) (x0 x1 x2 x3 y0 y1 y2 y3 : Int)
    (hx0 : x0 < 18446744073709551616) (hy0 : y0 < 18446744073709551616) (hx1 : x1 < 18446744073709551616) (hy1 : y1 < 18446744073709551616) (hx2 : x2 < 18446744073709551616) (hy2 : y2 < 18446744073709551616) : FCall Try.prog 45 [.arr .u64 4 [x0, x1, x2, x3], .arr .u64 4 [y0, y1, y2, y3]]
    (.tup [.arr .u64 4 [ad x0 y0 0, ad x1 y1 (ca x0 y0 0), ad x2 y2 (ca x1 y1 (ca x0 y0 0)), ad x3 y3 (ca x2 y2 (ca x1 y1 (ca x0 y0 0)))], .int .u64 (ca x3 y3 (ca x2 y2 (ca x1 y1 (ca x0 y0 0))))]) := by
  refine FCall.exec (ok_of hA hG) (fn := Try.f45) 100 [] rfl rfl rfl (fun h => ?_)
  conv => { arg 1; cbv }
  subst hA had hca
  have c0 : caV x0 y0 0 ≤ 1 := caV_le hx0 hy0 (by omega)
  have c1 : caV x1 y1 (caV x0 y0 0) ≤ 1 := caV_le hx1 hy1 c0
  have c2 : caV x2 y2 (caV x1 y1 (caV x0 y0 0)) ≤ 1 := caV_le hx2 hy2 c1
  refine ⟨?_, ?_⟩
  · simp [obs_nil_iff, obs_cons_iff, s_leq, s_ofNat, c0, c1, c2, s_rd, s_set]
  · simp [s_rd, s_set, s_ofNat]

theorem h45 : Holds Try.prog 45 (gEE_EI plE plC) := holds_EE_EI fun a b ha hb => by
  obtain ⟨a0, a1, a2, a3, rfl, h0, h1, h2, h3⟩ := words4 ha.1 ha.2
  obtain ⟨b0, b1, b2, b3, rfl, g0, g1, g2, g3⟩ := words4 hb.1 hb.2
  have h := w45 stdAr rfl adV caV rfl rfl ⟨h59, trivial⟩ a0 a1 a2 a3 b0 b1 b2 b3 h0.2 g0.2 h1.2 g1.2 h2.2 g2.2
  have e1 : plE [a0, a1, a2, a3] [b0, b1, b2, b3] = [adV a0 b0 0, adV a1 b1 (caV a0 b0 0), adV a2 b2 (caV a1 b1 (caV a0 b0 0)), adV a3 b3 (caV a2 b2 (caV a1 b1 (caV a0 b0 0)))] := by
    unfold plE
    simp only [val4, adV, caV]
    refine (enc4_of ?_ ?_ ?_ ?_ ?_).symm <;> omega
  have e2 : plC [a0, a1, a2, a3] [b0, b1, b2, b3] = caV a3 b3 (caV a2 b2 (caV a1 b1 (caV a0 b0 0))) := by
    unfold plC
    simp only [val4, caV]
    omega
  rw [e1, e2]
  exact h

theorem w43 (A : Ar) (hA : A = stdAr) (ad ca : Int → Int → Int → Int) (hca : ca = boV) (hG : allHold Try.prog [(58, gCarry A ad ca)]) (x0 x1 x2 x3 y0 y1 y2 y3 : Int) : FCall Try.prog 43 [.arr .u64 4 [x0, x1, x2, x3], .arr .u64 4 [y0, y1, y2, y3]]
    (.tup [.arr .u64 4 [ad x0 y0 0, ad x1 y1 (ca x0 y0 0), ad x2 y2 (ca x1 y1 (ca x0 y0 0)), ad x3 y3 (ca x2 y2 (ca x1 y1 (ca x0 y0 0)))], .int .u64 (ca x3 y3 (ca x2 y2 (ca x1 y1 (ca x0 y0 0))))]) := by
  refine FCall.exec (ok_of hA hG) (fn := Try.f43) 100 [] rfl rfl rfl (fun h => ?_)
  conv => { arg 1; cbv }
  subst hA hca
  refine ⟨?_, ?_⟩
  · simp [obs_nil_iff, obs_cons_iff, s_leq, s_ofNat, boV_le]
  · simp [s_rd, s_set, s_ofNat]

theorem h43 : Holds Try.prog 43 (gEE_EI mnE mnC) := holds_EE_EI fun a b ha hb => by
  obtain ⟨a0, a1, a2, a3, rfl, h0, h1, h2, h3⟩ := words4 ha.1 ha.2
  obtain ⟨b0, b1, b2, b3, rfl, g0, g1, g2, g3⟩ := words4 hb.1 hb.2
  have h := w43 stdAr rfl sbV boV rfl ⟨h58, trivial⟩ a0 a1 a2 a3 b0 b1 b2 b3
  have e1 : mnE [a0, a1, a2, a3] [b0, b1, b2, b3] = [sbV a0 b0 0, sbV a1 b1 (boV a0 b0 0), sbV a2 b2 (boV a1 b1 (boV a0 b0 0)), sbV a3 b3 (boV a2 b2 (boV a1 b1 (boV a0 b0 0)))] := by
    unfold mnE
    simp only [val4, sbV, boV]
    refine (enc4_of ?_ ?_ ?_ ?_ ?_).symm <;> omega
  have e2 : mnC [a0, a1, a2, a3] [b0, b1, b2, b3] = boV a3 b3 (boV a2 b2 (boV a1 b1 (boV a0 b0 0))) := by
    unfold mnC
    simp only [val4, boV]
    omega
  rw [e1, e2]
  exact h
end Go.Proofs.SX

namespace Go.Proofs.SX
open Go Go.Proofs
set_option maxRecDepth 100000
set_option linter.unusedVariables false
set_option linter.unusedSimpArgs false

def pr : Int := 57896044618658097711785492504343953926634992332820282019728792003956564819949
def prE : LI := [18446744073709551597, 18446744073709551615, 18446744073709551615, 9223372036854775807]
theorem val_prE : val prE = pr := by unfold prE pr; rw [val4]; omega

theorem w44 (A : Ar) (hA : A = stdAr) : FCall Try.prog 44 [] (.arr .u64 4 [A.ofNat 18446744073709551597, A.ofNat 18446744073709551615, A.ofNat 18446744073709551615, A.ofNat 9223372036854775807]) := by
  refine FCall.exec (ok_of (l := []) hA trivial) (fn := Try.f44) 100 [] rfl rfl rfl (fun h => ?_)
  conv => { arg 1; cbv }
  exact ⟨obs_nil, rfl⟩
theorem h44 : Holds Try.prog 44 (g0 (.arr .u64 4 prE)) := holds_0 (w44 stdAr rfl)

theorem w46 (A : Ar) (hA : A = stdAr) (x : Int) : FCall Try.prog 46 [.int .u64 x] (.arr .u64 4 [x, 0, 0, 0]) := by
  refine FCall.exec (ok_of (l := []) hA trivial) (fn := Try.f46) 100 [] rfl rfl rfl (fun h => ?_)
  conv => { arg 1; cbv }
  exact ⟨obs_nil, rfl⟩
theorem h46 : Holds Try.prog 46 (gI_E stdAr fun x => [x, 0, 0, 0]) := holds_I_E fun x _ => w46 stdAr rfl x

def rdE (a : LI) : LI := enc4 (val a % pr)
theorem rdE_of {a0 a1 a2 a3 : Int} (h0 : 0 ≤ a0 ∧ a0 < 18446744073709551616) (h1 : 0 ≤ a1 ∧ a1 < 18446744073709551616) (h2 : 0 ≤ a2 ∧ a2 < 18446744073709551616) (h3 : 0 ≤ a3 ∧ a3 < 18446744073709551616) {s : LI}
    (hs : s = plE [a0, a1, a2, a3 % 9223372036854775808] [19 * (a3 / 9223372036854775808) % 18446744073709551616, 0, 0, 0]) :
    (mnC s prE = 0 → mnE s prE = rdE [a0, a1, a2, a3]) ∧ (mnC s prE ≠ 0 → s = rdE [a0, a1, a2, a3]) := by
  have hv : val s = (a0 + 18446744073709551616 * a1 + 340282366920938463463374607431768211456 * a2 + 6277101735386680763835789423207666416102355444464034512896 * (a3 % 9223372036854775808)) + 19 * (a3 / 9223372036854775808) := by
    have e1 : a3 / 9223372036854775808 = 0 ∨ a3 / 9223372036854775808 = 1 := by omega
    rw [hs]; unfold plE; rw [val_enc4 (by omega), val4, val4]
    rcases e1 with e1 | e1 <;> rw [e1] <;> omega
  have hs2 : s = enc4 (val s) := by
    rw [hs]; unfold plE; rw [val_enc4 (by omega)]
  unfold mnC mnE rdE
  rw [val_prE, val4]
  unfold pr
  constructor
  · intro h
    have : ¬ val s < 57896044618658097711785492504343953926634992332820282019728792003956564819949 := by
      intro hlt; rw [if_pos hlt] at h; omega
    congr 1
    omega
  · intro h
    have : val s < 57896044618658097711785492504343953926634992332820282019728792003956564819949 := by
      apply Classical.byContradiction
      intro hlt; rw [if_neg hlt] at h; omega
    rw [hs2]
    congr 1
    omega

theorem w35 (A : Ar) (hA : A = stdAr) (pl mn : LI → LI → LI) (pc mc : LI → LI → Int) (hpl : pl = plE) (hmn : mn = mnE) (hmc : mc = mnC) (hG : allHold Try.prog [(44, g0 (.arr .u64 4 prE)), (45, gEE_EI pl pc), (43, gEE_EI mn mc)]) (x0 x1 x2 x3 : Int)
   (h0 : 0 ≤ x0 ∧ x0 < 18446744073709551616) (h1 : 0 ≤ x1 ∧ x1 < 18446744073709551616) (h2 : 0 ≤ x2 ∧ x2 < 18446744073709551616) (h3 : 0 ≤ x3 ∧ x3 < 18446744073709551616) :
    FCall Try.prog 35 [.arr .u64 4 [x0, x1, x2, x3]] (.arr .u64 4 (rdE [x0, x1, x2, x3])) := by
  have k1 : stdAr.bin .andNot .u64 x3 9223372036854775808 = x3 % 9223372036854775808 := s_andNot_top h3
  have k2 : stdAr.bin .shr .u64 x3 63 = x3 / 9223372036854775808 := s_shr 63 (by omega) h3 rfl
  have k3 := rdE_of h0 h1 h2 h3 rfl
  apply FCall.split
  case h1 =>
    intro hb
    refine FCall.exec (ok_of hA hG) (fn := Try.f35) 100 [true] rfl rfl rfl (fun h => ?_)
    conv => { arg 1; cbv }
    refine ⟨obs_cons hb ?_, ?_⟩
    · subst hA; simp [obs_nil_iff, obs_cons_iff, s_leq, s_ofNat]
    · subst hA hpl hmn hmc
      simp [s_rd, s_set, s_ofNat, s_eql, s_mul, wrap_u64', k1, k2] at hb ⊢
      exact k3.1 hb
  case h2 =>
    intro hb
    refine FCall.exec (ok_of hA hG) (fn := Try.f35) 100 [false] rfl rfl rfl (fun h => ?_)
    conv => { arg 1; cbv }
    refine ⟨obs_cons hb ?_, ?_⟩
    · subst hA; simp [obs_nil_iff, obs_cons_iff, s_leq, s_ofNat]
    · subst hA hpl hmn hmc
      simp [s_rd, s_set, s_ofNat, s_eql, s_mul, wrap_u64', k1, k2] at hb ⊢
      exact k3.2 hb
theorem h35 : Holds Try.prog 35 (gE_E rdE) := holds_E_E fun a ha => by
  obtain ⟨a0, a1, a2, a3, rfl, h0, h1, h2, h3⟩ := words4 ha.1 ha.2
  exact w35 stdAr rfl plE mnE plC mnC rfl rfl rfl ⟨h44, h45, h43, trivial⟩ _ _ _ _ h0 h1 h2 h3
end Go.Proofs.SX

namespace Go.Proofs.SX
open Go Go.Proofs
set_option maxRecDepth 100000
set_option linter.unusedVariables false
set_option linter.unusedSimpArgs false

theorem val_rdE {a : LI} (ha : E4 a) : val (rdE a) = val a % pr ∧ 0 ≤ val a := by
  obtain ⟨_, h2, h3⟩ := enc4_val ha.1 ha.2
  refine ⟨?_, h2⟩
  unfold rdE pr
  rw [val_enc4 (by omega)]

def adE (a b : LI) : LI := enc4 ((val a + val b) % pr)
theorem w22 (A : Ar) (hA : A = stdAr) (rd : LI → LI) (pl : LI → LI → LI) (pc : LI → LI → Int) (hG : allHold Try.prog [(35, gE_E rd), (45, gEE_EI pl pc)]) (a b : LI) :
    FCall Try.prog 22 [.arr .u64 4 a, .arr .u64 4 b] (.arr .u64 4 (rd (pl (rd a) (rd b)))) := by
  refine FCall.exec (ok_of hA hG) (fn := Try.f22) 100 [] rfl rfl rfl (fun h => ?_)
  conv => { arg 1; cbv }
  exact ⟨obs_nil, rfl⟩
theorem h22 : Holds Try.prog 22 (gEE_E adE) := holds_EE_E fun a b ha hb => by
  have h := w22 stdAr rfl rdE plE plC ⟨h35, h45, trivial⟩ a b
  have e : adE a b = rdE (plE (rdE a) (rdE b)) := by
    obtain ⟨h1, h2⟩ := val_rdE ha
    obtain ⟨h3, h4⟩ := val_rdE hb
    show _ = enc4 (val (plE (rdE a) (rdE b)) % pr)
    unfold plE
    rw [h1, h3]
    unfold adE pr
    rw [val_enc4 (by omega)]
    congr 1
    omega
  rw [e]; exact h

def suE (a b : LI) : LI := enc4 ((val a - val b) % pr)
theorem w20 (A : Ar) (hA : A = stdAr) (rd : LI → LI) (pl mn : LI → LI → LI) (pc mc : LI → LI → Int) (hrd : rd = rdE) (hpl : pl = plE) (hmn : mn = mnE) (hmc : mc = mnC) (hG : allHold Try.prog [(35, gE_E rd), (45, gEE_EI pl pc), (43, gEE_EI mn mc), (44, g0 (.arr .u64 4 prE))]) (a b : LI) (ha : E4 a) (hb : E4 b) :
    FCall Try.prog 20 [.arr .u64 4 a, .arr .u64 4 b] (.arr .u64 4 (suE a b)) := by
  have e : (mnC (rdE a) (rdE b) = 0 → mnE (rdE a) (rdE b) = suE a b) ∧ (mnC (rdE a) (rdE b) ≠ 0 → plE (mnE (rdE a) (rdE b)) prE = suE a b) := by
    obtain ⟨h1, h2⟩ := val_rdE ha
    obtain ⟨h3, h4⟩ := val_rdE hb
    unfold mnC mnE plE suE
    rw [h1, h3, val_prE]
    unfold pr
    rw [val_enc4 (by omega)]
    constructor
    · intro h
      have : ¬ val a % 57896044618658097711785492504343953926634992332820282019728792003956564819949 < val b % 57896044618658097711785492504343953926634992332820282019728792003956564819949 := by
        intro hlt; rw [if_pos hlt] at h; omega
      congr 1
      omega
    · intro h
      have : val a % 57896044618658097711785492504343953926634992332820282019728792003956564819949 < val b % 57896044618658097711785492504343953926634992332820282019728792003956564819949 := by
        apply Classical.byContradiction
        intro hlt; rw [if_neg hlt] at h; omega
      congr 1
      omega
  apply FCall.split
  case h1 =>
    intro hb
    refine FCall.exec (ok_of hA hG) (fn := Try.f20) 100 [true] rfl rfl rfl (fun h => ?_)
    conv => { arg 1; cbv }
    refine ⟨obs_cons hb obs_nil, ?_⟩
    subst hA hpl hmn hmc hrd
    simp [s_ofNat, s_neq] at hb
    exact congrArg _ (e.2 hb)
  case h2 =>
    intro hb
    refine FCall.exec (ok_of hA hG) (fn := Try.f20) 100 [false] rfl rfl rfl (fun h => ?_)
    conv => { arg 1; cbv }
    refine ⟨obs_cons hb obs_nil, ?_⟩
    subst hA hpl hmn hmc hrd
    simp [s_ofNat, s_neq] at hb
    exact congrArg _ (e.1 hb)
theorem h20 : Holds Try.prog 20 (gEE_E suE) := holds_EE_E fun a b ha hb =>
  w20 stdAr rfl rdE plE mnE plC mnC rfl rfl rfl rfl ⟨h35, h45, h43, h44, trivial⟩ a b ha hb

theorem mul_bound {a b n m : Int} (ha : 0 ≤ a ∧ a ≤ n) (hb : 0 ≤ b ∧ b ≤ m) : 0 ≤ a * b ∧ a * b ≤ n * m :=
  ⟨Int.mul_nonneg ha.1 hb.1, Int.mul_le_mul ha.2 hb.2 hb.1 (by omega)⟩

/-- A product of two words by their halves. -/
theorem mul64_plain {x y : Int} (hx : 0 ≤ x ∧ x < 18446744073709551616) (hy : 0 ≤ y ∧ y < 18446744073709551616) :
    ∀ x0 x1 y0 y1 t w1 w2 : Int, x0 = x % 4294967296 → x1 = x / 4294967296 → y0 = y % 4294967296 → y1 = y / 4294967296 →
      t = (x1 * y0 % 18446744073709551616 + x0 * y0 % 18446744073709551616 / 4294967296) % 18446744073709551616 →
      w1 = (t % 4294967296 + x0 * y1 % 18446744073709551616) % 18446744073709551616 →
      w2 = t / 4294967296 →
      ((x1 * y1 % 18446744073709551616 + w2) % 18446744073709551616 + w1 / 4294967296) % 18446744073709551616 = hiV x y := by
  intro x0 x1 y0 y1 t w1 w2 e1 e2 e3 e4 e5 e6 e7
  have hx0 : 0 ≤ x0 ∧ x0 ≤ 4294967295 := by omega
  have hx1 : 0 ≤ x1 ∧ x1 ≤ 4294967295 := by omega
  have hy0 : 0 ≤ y0 ∧ y0 ≤ 4294967295 := by omega
  have hy1 : 0 ≤ y1 ∧ y1 ≤ 4294967295 := by omega
  have b00 := mul_bound hx0 hy0
  have b01 := mul_bound hx0 hy1
  have b10 := mul_bound hx1 hy0
  have b11 := mul_bound hx1 hy1
  have hxy : x * y = x1 * y1 * 18446744073709551616 + (x1 * y0 + x0 * y1) * 4294967296 + x0 * y0 := by
    have hx2 : x = x1 * 4294967296 + x0 := by omega
    have hy2 : y = y1 * 4294967296 + y0 := by omega
    rw [hx2, hy2]; grind
  unfold hiV
  rw [hxy]
  generalize x0 * y0 = p00 at *
  generalize x0 * y1 = p01 at *
  generalize x1 * y0 = p10 at *
  generalize x1 * y1 = p11 at *
  omega

theorem w60 (A : Ar) (hA : A = stdAr) (x y : Int) (hx : 0 ≤ x ∧ x < 18446744073709551616) (hy : 0 ≤ y ∧ y < 18446744073709551616) : FCall Try.prog 60 [.int .u64 x, .int .u64 y] (.tup [.int .u64 (hiV x y), .int .u64 (loV x y)]) := by
  refine FCall.exec (ok_of (l := []) hA trivial) (fn := Try.f60) 100 [] rfl rfl rfl (fun h => ?_)
  conv => { arg 1; cbv }
  have m1 : ∀ {z : Int}, 0 ≤ z ∧ z < 18446744073709551616 → stdAr.bin .and .u64 z 4294967295 = z % 4294967296 := fun hz => s_and_low 32 (by omega) hz (by decide)
  have m2 : ∀ {z : Int}, 0 ≤ z ∧ z < 18446744073709551616 → stdAr.bin .shr .u64 z 32 = z / 4294967296 := fun hz => s_shr 32 (by omega) hz rfl
  subst hA
  refine ⟨?_, ?_⟩
  · simp [obs_nil_iff, obs_cons_iff, s_leq, s_ofNat]
  · have r : ∀ z : Int, 0 ≤ z % 18446744073709551616 ∧ z % 18446744073709551616 < 18446744073709551616 := fun z => by omega
    simp only [s_ofNat, s_add, s_mul, wrap_u64']
    have c1 : ((4294967295 : Nat) : Int) = 4294967295 := rfl
    have c2 : ((32 : Nat) : Int) = 32 := rfl
    simp only [c1, c2, m1 hx, m1 hy, m2 hx, m2 hy, m1 (r _), m2 (r _)]
    have e := mul64_plain hx hy _ _ _ _ _ _ _ rfl rfl rfl rfl rfl rfl rfl
    rw [e]
    rfl
theorem holds_two {P : Program} {f : FuncId} {F G : Int → Int → Int} (h : ∀ x y, (0 ≤ x ∧ x < 18446744073709551616) → (0 ≤ y ∧ y < 18446744073709551616) → FCall P f [.int .u64 x, .int .u64 y] (.tup [.int .u64 (F x y), .int .u64 (G x y)])) : Holds P f (gTwo stdAr F G) := by
  refine Holds.norm (g := fun l => match l with | [.int .u64 x, .int .u64 y] => some (.tup [.int .u64 (F x y), .int .u64 (G x y)], []) | _ => none) ?_
  intro args r ob hg ho
  dsimp only at hg
  split at hg
  · rename_i x y
    simp only [Option.some.injEq, Prod.mk.injEq] at hg; obtain ⟨rfl, rfl⟩ := hg
    exact FCall.known fun ⟨own, w, vs, hv⟩ => h x y (rg64.1 (ints2 hv).2.1) (rg64.1 (ints2 hv).2.2)
  · simp at hg
theorem h60 : Holds Try.prog 60 (gTwo stdAr hiV loV) := holds_two fun x y hx hy => w60 stdAr rfl x y hx hy
end Go.Proofs.SX

namespace Go.Proofs.SX
open Go Go.Proofs
set_option maxRecDepth 100000
set_option linter.unusedVariables false
set_option linter.unusedSimpArgs false

/-- The outer loop: the round, and the words so far. -/
def prJ (a b : LI) (x : Int × LI) : Prop :=
  (0 ≤ x.1 ∧ x.1 ≤ 4) ∧ (x.2.length = 8 ∧ RgL .u64 x.2) ∧ val x.2 = val (a.take x.1.toNat) * val b ∧ ∀ j, x.1.toNat + 4 ≤ j → x.2.getD j 0 = 0
def prS (a b z : LI) (x : Int × LI) : St := ⟨mkF [(2, .ptr 0 0), (3, .ptr 1 0), (4, .ptr 2 0), (5, .ptr 3 0), (6, .ptr 4 0), (15, .arr .u64 4 a), (16, .int .i64 x.1)] 70 0,
  [.cells [.arr .u64 4 a], .cells [.arr .u64 4 b], .cells [.arr .u64 4 z], .cells [.arr .u64 4 z], .cells [.arr .u64 8 x.2]]⟩
/-- The inner loop: the round, the words and the carry. -/
def piJ (a b : LI) (i : Int) (p : LI) (y : Int × LI × Int) : Prop :=
  (0 ≤ y.1 ∧ y.1 ≤ 4) ∧ (y.2.1.length = 8 ∧ RgL .u64 y.2.1) ∧ (0 ≤ y.2.2 ∧ y.2.2 < 18446744073709551616) ∧
  val y.2.1 + y.2.2 * 18446744073709551616 ^ (i.toNat + y.1.toNat) = val p + a.getD i.toNat 0 * val (b.take y.1.toNat) * 18446744073709551616 ^ i.toNat ∧ ∀ j, i.toNat + 4 ≤ j → y.2.1.getD j 0 = 0
def piS (a b z : LI) (i w : Int) (y : Int × LI × Int) : St := ⟨mkF [(2, .ptr 0 0), (3, .ptr 1 0), (4, .ptr 2 0), (5, .ptr 3 0), (6, .ptr 4 0), (7, .int .i64 i), (8, .int .u64 w), (9, .int .u64 y.2.2), (15, .arr .u64 4 a), (16, .int .i64 i), (20, .arr .u64 4 b), (21, .int .i64 y.1)] 70 0,
  [.cells [.arr .u64 4 a], .cells [.arr .u64 4 b], .cells [.arr .u64 4 z], .cells [.arr .u64 4 z], .cells [.arr .u64 8 y.2.1]]⟩

/-- One step of the inner loop. -/
theorem pi_step {a b : LI} {i : Int} {p : LI} {k c : Int} {q : LI} (ha : E4 a) (hb : E4 b) (hi : 0 ≤ i ∧ i < 4) (hk : k < 4) (h : piJ a b i p (k, q, c)) :
    ∀ l1 c1 h1 l2 c2 : Int, l1 = adV (loV (a.getD i.toNat 0) (b.getD k.toNat 0)) (q.getD (i + k).toNat 0) 0 → c1 = caV (loV (a.getD i.toNat 0) (b.getD k.toNat 0)) (q.getD (i + k).toNat 0) 0 →
      h1 = (hiV (a.getD i.toNat 0) (b.getD k.toNat 0) + c1) % 18446744073709551616 → l2 = adV l1 c 0 → c2 = caV l1 c 0 →
      piJ a b i p (k + 1, q.set (i + k).toNat l2, (h1 + c2) % 18446744073709551616) := by
  intro l1 c1 h1 l2 c2 e1 e2 e3 e4 e5
  obtain ⟨h2, ⟨h3, h4⟩, h5, h6, h7⟩ := h
  simp only at h2 h3 h4 h5 h6 h7
  have hx := getD_rg ha.2 i.toNat
  have hy := getD_rg hb.2 k.toNat
  have hq := getD_rg h4 (i + k).toNat
  have hm := mul_bound (a := a.getD i.toNat 0) (b := b.getD k.toNat 0) (n := 18446744073709551615) (m := 18446744073709551615) (by omega) (by omega)
  have key : l2 + (h1 + c2) % 18446744073709551616 * 18446744073709551616 = a.getD i.toNat 0 * b.getD k.toNat 0 + q.getD (i + k).toNat 0 + c := by
    unfold adV caV loV hiV at *
    generalize a.getD i.toNat 0 * b.getD k.toNat 0 = m at *
    omega
  have hl2 : 0 ≤ l2 ∧ l2 < 18446744073709551616 := by rw [e4]; unfold adV; omega
  have hik : (i + k).toNat = i.toNat + k.toNat := by omega
  have hk1 : (k + 1).toNat = k.toNat + 1 := by omega
  refine ⟨by simp only; omega, ⟨by simp [h3], rgL_set h4 _ (rg64.2 hl2)⟩, by simp only; omega, ?_, ?_⟩
  · simp only
    rw [hik] at key
    rw [val_set _ _ _ (by omega), hk1, val_take_succ _ _ (by rw [hb.1]; omega), hik]
    generalize (h1 + c2) % 18446744073709551616 = d at *
    generalize a.getD i.toNat 0 = x at *
    generalize b.getD k.toNat 0 = y at *
    generalize q.getD (i.toNat + k.toNat) 0 = w at *
    generalize val (List.take k.toNat b) = v at *
    have hd : d * 18446744073709551616 = x * y + w + c - l2 := by omega
    rw [← Nat.add_assoc, Int.pow_succ, Int.pow_add]
    rw [Int.pow_add] at h6
    generalize (18446744073709551616 : Int) ^ i.toNat = s at *
    generalize (18446744073709551616 : Int) ^ k.toNat = t at *
    grind
  · intro j hj
    simp only
    rw [getD_set_ne _ _ _ _ (by omega)]
    exact h7 j hj

/-- One step of the outer loop. -/
theorem pr_step {a b : LI} {i : Int} {p : LI} {k c : Int} {q : LI} (ha : E4 a) (hb : E4 b) (hi : i < 4) (h : prJ a b (i, p)) (hj : piJ a b i p (k, q, c)) (hk : ¬ k < 4) : prJ a b (i + 1, q.set (i + 4).toNat c) := by
  obtain ⟨h1, _, h2, _⟩ := h
  obtain ⟨h3, ⟨h4, h5⟩, h6, h7, h8⟩ := hj
  simp only at *
  have hk4 : k = 4 := by omega
  subst hk4
  have hb4 : b.take 4 = b := List.take_of_length_le (by rw [hb.1]; exact Nat.le_refl _)
  have e4 : ((4 : Int)).toNat = 4 := rfl
  have hi4 : (i + 4).toNat = i.toNat + 4 := by omega
  have hi1 : (i + 1).toNat = i.toNat + 1 := by omega
  rw [e4, hb4] at h7
  refine ⟨by simp only; omega, ⟨by simp [h4], rgL_set h5 _ (rg64.2 h6)⟩, ?_, ?_⟩
  · simp only
    rw [val_set _ _ _ (by omega), hi4, h8 _ (Nat.le_refl _), hi1, val_take_succ _ _ (by rw [ha.1]; omega)]
    generalize a.getD i.toNat 0 = x at *
    generalize val (List.take i.toNat a) = v at *
    generalize (18446744073709551616 : Int) ^ i.toNat = s at *
    grind
  · intro j hj
    simp only at hj ⊢
    rw [getD_set_ne _ _ _ _ (by omega)]
    exact h8 j (by omega)

theorem words8 {xs : LI} (h : xs.length = 8) (hr : RgL .u64 xs) : ∃ a b c d a' b' c' d', xs = [a, b, c, d, a', b', c', d'] ∧ E4 [a, b, c, d] ∧ E4 [a', b', c', d'] := by
  match xs, h with
  | [a, b, c, d, a', b', c', d'], _ => exact ⟨a, b, c, d, a', b', c', d', rfl, ⟨rfl, fun x hx => hr x (by simp at hx ⊢; rcases hx with h | h | h | h <;> simp [h])⟩, ⟨rfl, fun x hx => hr x (by simp at hx ⊢; rcases hx with h | h | h | h <;> simp [h])⟩⟩
theorem halves8 {xs : LI} (h : xs.length = 8) (hr : RgL .u64 xs) : xs.take 4 = enc4 (val xs % 115792089237316195423570985008687907853269984665640564039457584007913129639936) ∧ (xs.drop 4).take 4 = enc4 (val xs / 115792089237316195423570985008687907853269984665640564039457584007913129639936) := by
  obtain ⟨a, b, c, d, a', b', c', d', rfl, h1, h2⟩ := words8 h hr
  obtain ⟨e1, l1, u1⟩ := enc4_val h1.1 h1.2
  obtain ⟨e2, l2, u2⟩ := enc4_val h2.1 h2.2
  have hv : val [a, b, c, d, a', b', c', d'] = val [a, b, c, d] + 115792089237316195423570985008687907853269984665640564039457584007913129639936 * val [a', b', c', d'] := by
    simp only [val]; omega
  rw [hv]
  constructor
  · refine e1.symm.trans (congrArg enc4 ?_)
    omega
  · refine e2.symm.trans (congrArg enc4 ?_)
    omega
end Go.Proofs.SX

namespace Go.Proofs.SX
open Go Go.Proofs
set_option maxRecDepth 100000
set_option linter.unusedVariables false
set_option linter.unusedSimpArgs false

def poE (a b : LI) : LI := enc4 (val a * val b % 115792089237316195423570985008687907853269984665640564039457584007913129639936)
def puE (a b : LI) : LI := enc4 (val a * val b / 115792089237316195423570985008687907853269984665640564039457584007913129639936)

theorem w47 (A : Ar) (hA : A = stdAr) (ad ca : Int → Int → Int → Int) (hi lo : Int → Int → Int) (had : ad = adV) (hca : ca = caV) (hhi : hi = hiV) (hlo : lo = loV) (hG : allHold Try.prog [(59, gCarry A ad ca), (60, gTwo A hi lo)]) (a b : LI) (ha : E4 a) (hb : E4 b) :
    FCall Try.prog 47 [.arr .u64 4 a, .arr .u64 4 b] (.tup [.arr .u64 4 (poE a b), .arr .u64 4 (puE a b)]) := by
  have k := ok_of hA hG
  refine FCall.of_body k (fn := Try.f47) rfl rfl rfl rfl (fun _ => ?_)
  refine AWP.seq (AWP.go k 100 [] ?_)
  conv => { arg 1; cbv }
  refine ⟨obs_nil, ?_⟩
  dsimp only [sthen]
  refine AWP.seq (AWP.go k 100 [] ?_)
  conv => { arg 1; cbv }
  refine ⟨obs_nil, ?_⟩
  dsimp only [sthen]
  refine AWP.seq (AWP.seq (AWP.go k 100 [] ?_))
  conv => { arg 1; cbv }
  refine ⟨obs_nil, ?_⟩
  dsimp only [sthen]
  refine AWP.block ?_
  refine AWP.loopP (prS a b (A.zeros 4)) (prJ a b) (fun x => (4 - x.1).toNat) (0, A.zeros 8) ?_ ?_ ?_
  · refine ⟨?_, ?_, rfl⟩
    · repeat' (first | exact .nil | exact .any _ | exact .same _ | exact .lit _ _ | refine .cons ?_ ?_)
    · repeat' (first | exact .nil _ | exact .same _ | refine .cons ?_ ?_)
  · subst hA
    refine ⟨by simp only; omega, ⟨rfl, by intro x hx; simp [s_zeros] at hx; subst hx; exact rg_zero _⟩, by simp [s_zeros, val], ?_⟩
    intro j hj
    simp only [s_zeros, List.getD_eq_getElem?_getD, List.getElem?_replicate]
    split <;> rfl
  · rintro ⟨i, p⟩ hJ
    have hi0 : 0 ≤ i ∧ i ≤ 4 := hJ.1
    refine AWP.split (A.cmp .lss i (A.ofNat 4)) (fun hlt => ?_) (fun hlt => ?_)
    · have hlt4 : i < 4 := by subst hA; simpa [s_lss, s_ofNat] using hlt
      refine AWP.seq (AWP.go k 100 [] ?_)
      conv => { arg 1; cbv }
      refine ⟨obs_nil, ?_⟩
      dsimp only [sthen]
      refine AWP.seq (AWP.go k 100 [true] ?_)
      conv => { arg 1; cbv }
      refine ⟨obs_cons hlt obs_nil, ?_⟩
      dsimp only [sthen]
      refine AWP.seq (AWP.block ?_)
      refine AWP.seq (AWP.go k 100 [] ?_)
      conv => { arg 1; cbv }
      refine ⟨?_, ?_⟩
      · subst hA; simp [obs_nil_iff, obs_cons_iff, s_lss, s_leq, s_ofNat]; omega
      dsimp only [sthen]
      refine AWP.seq (AWP.go k 100 [] ?_)
      conv => { arg 1; cbv }
      refine ⟨obs_nil, ?_⟩
      dsimp only [sthen]
      refine AWP.seq (AWP.seq (AWP.go k 100 [] ?_))
      conv => { arg 1; cbv }
      refine ⟨obs_nil, ?_⟩
      dsimp only [sthen]
      refine AWP.block ?_
      refine AWP.loopP (piS a b (A.zeros 4) i (A.rd a i)) (piJ a b i p) (fun y => (4 - y.1).toNat) (0, p, 0) ?_ ?_ ?_
      · refine ⟨?_, ?_, rfl⟩
        · repeat' (first | exact .nil | exact .any _ | exact .same _ | exact .lit _ _ | refine .cons ?_ ?_)
        · repeat' (first | exact .nil _ | exact .same _ | refine .cons ?_ ?_)
      · exact ⟨by simp only; omega, hJ.2.1, by simp only; omega, by simp [val], hJ.2.2.2⟩
      · rintro ⟨kk, q, c⟩ hI
        have hk0 : 0 ≤ kk ∧ kk ≤ 4 := hI.1
        refine AWP.split (A.cmp .lss kk (A.ofNat 4)) (fun hlt2 => ?_) (fun hlt2 => ?_)
        · have hlt24 : kk < 4 := by subst hA; simpa [s_lss, s_ofNat] using hlt2
          have e1 : IntKind.wrap .i64 (i + kk) = i + kk := wrap_i64' _ (by omega)
          have e2 : IntKind.wrap .i64 (kk + 1) = kk + 1 := wrap_i64' _ (by omega)
          refine AWP.go k 100 [true] ?_
          conv => { arg 1; cbv }
          refine ⟨?_, ?_⟩
          · subst hA
            simp only [obs_nil_iff, obs_cons_iff, s_lss, s_leq, s_ofNat, s_add, e1, decide_eq_true_eq]
            refine ⟨?_, ?_, ?_, ?_, ?_, ?_, ?_, ?_, ?_, trivial⟩ <;> omega
          · apply handed.mk (_, _, _)
            · refine ⟨?_, ?_, rfl⟩
              · repeat' (first | exact .nil | exact .any _ | exact .same _ | exact .lit _ _ | refine .cons ?_ ?_)
              · repeat' (first | exact .nil _ | exact .same _ | refine .cons ?_ ?_)
            · subst hA had hca hhi hlo
              have := pi_step ha hb ⟨hi0.1, hlt4⟩ hlt24 hI _ _ _ _ _ rfl rfl rfl rfl rfl
              simpa only [s_add, s_ofNat, nc0, nc1, s_rd, s_set, e1, e2, wrap_u64'] using this
            · subst hA
              simp only [s_add, s_ofNat]
              rw [show ((1 : Nat) : Int) = 1 from rfl, e2]
              omega
        · refine AWP.go k 100 [false] ?_
          conv => { arg 1; cbv }
          refine ⟨obs_cons hlt2 obs_nil, ?_⟩
          have hge : ¬ kk < 4 := by subst hA; simpa [s_lss, s_ofNat] using hlt2
          dsimp only [handed, sblock, sthen]
          rw [if_pos rfl]
          have e4 : IntKind.wrap .i64 (i + 4) = i + 4 := wrap_i64' _ (by omega)
          have e1 : IntKind.wrap .i64 (i + 1) = i + 1 := wrap_i64' _ (by omega)
          refine AWP.go k 100 [] ?_
          conv => { arg 1; cbv }
          refine ⟨?_, ?_⟩
          · subst hA
            simp only [obs_nil_iff, obs_cons_iff, s_lss, s_leq, s_ofNat, nc4, nc8, s_add, e4, decide_eq_true_eq]
            refine ⟨?_, ?_, trivial⟩ <;> omega
          dsimp only [sthen, sblock]
          refine AWP.go k 100 [] ?_
          conv => { arg 1; cbv }
          refine ⟨obs_nil, ?_⟩
          apply handed.mk (_, _)
          · refine ⟨?_, ?_, rfl⟩
            · repeat' (first | exact .nil | exact .any _ | exact .same _ | exact .lit _ _ | refine .cons ?_ ?_)
            · repeat' (first | exact .nil _ | exact .same _ | refine .cons ?_ ?_)
          · subst hA
            have := pr_step ha hb hlt4 hJ hI hge
            simpa only [s_add, s_ofNat, nc0, nc1, nc4, s_rd, s_set, e1, e4, wrap_u64'] using this
          · subst hA
            simp only [s_add, s_ofNat, nc1, e1]
            omega
    · have hge : ¬ i < 4 := by subst hA; simpa [s_lss, s_ofNat] using hlt
      refine AWP.go k 100 [false] ?_
      conv => { arg 1; cbv }
      refine ⟨obs_cons hlt obs_nil, ?_⟩
      dsimp only [handed, sblock, sthen]
      rw [if_pos rfl]
      refine AWP.go k 100 [] ?_
      conv => { arg 1; cbv }
      refine ⟨?_, ?_⟩
      · subst hA
        simp [obs_nil_iff, obs_cons_iff, s_lss, s_leq, s_ofNat, stdAr]
      refine ⟨fun id => by simp, ?_⟩
      conv => { lhs; cbv }
      obtain ⟨_, ⟨hl, hr⟩, hv, _⟩ := hJ
      have hi4 : i = 4 := by omega
      subst hi4
      simp only at hl hr hv
      rw [show a.take (4 : Int).toNat = a from List.take_of_length_le (by rw [ha.1]; exact Nat.le_refl _)] at hv
      obtain ⟨g1, g2⟩ := halves8 hl hr
      rw [hv] at g1 g2
      unfold poE puE
      rw [← g1, ← g2]
      subst hA
      rfl
theorem h47 : Holds Try.prog 47 (gEE_EE poE puE) := holds_EE_EE fun a b ha hb => w47 stdAr rfl adV caV hiV loV rfl rfl rfl rfl ⟨h59, h60, trivial⟩ a b ha hb
end Go.Proofs.SX

namespace Go.Proofs.SX
open Go Go.Proofs
set_option maxRecDepth 100000
set_option linter.unusedVariables false
set_option linter.unusedSimpArgs false

def e38 (a : LI) : LI := enc4 (val a * 38 % 115792089237316195423570985008687907853269984665640564039457584007913129639936)
def c38 (a : LI) : Int := val a * 38 / 115792089237316195423570985008687907853269984665640564039457584007913129639936

theorem t38_step {x c : Int} (hx : 0 ≤ x ∧ x < 18446744073709551616) (hc : 0 ≤ c ∧ c < 39) :
    adV (loV x 38) c 0 + (hiV x 38 + caV (loV x 38) c 0) % 18446744073709551616 * 18446744073709551616 = x * 38 + c ∧ (0 ≤ adV (loV x 38) c 0 ∧ adV (loV x 38) c 0 < 18446744073709551616) ∧
      (0 ≤ (hiV x 38 + caV (loV x 38) c 0) % 18446744073709551616 ∧ (hiV x 38 + caV (loV x 38) c 0) % 18446744073709551616 < 39) := by
  unfold adV caV loV hiV
  have e : ∃ q r, x * 38 / 18446744073709551616 = q ∧ x * 38 % 18446744073709551616 = r ∧ x * 38 = q * 18446744073709551616 + r ∧ (0 ≤ r ∧ r < 18446744073709551616) ∧ 0 ≤ q ∧ q < 38 := ⟨_, _, rfl, rfl, by omega, by omega, by omega, by omega⟩
  obtain ⟨q, r, e1, e2, e3, e4, e5, e6⟩ := e
  rw [e1, e2, e3]
  have f : (r + c + 0) / 18446744073709551616 = 0 ∨ (r + c + 0) / 18446744073709551616 = 1 := by omega
  have g : (q + (r + c + 0) / 18446744073709551616) % 18446744073709551616 = q + (r + c + 0) / 18446744073709551616 := Int.emod_eq_of_lt (by omega) (by omega)
  rw [g]
  have f2 : q = 37 → r ≤ 18446744073709551578 := by omega
  rcases f with f | f <;> rw [f] <;> omega
theorem w48 (A : Ar) (hA : A = stdAr) (ad ca : Int → Int → Int → Int) (hi lo : Int → Int → Int) (had : ad = adV) (hca : ca = caV) (hhi : hi = hiV) (hlo : lo = loV) (hG : allHold Try.prog [(59, gCarry A ad ca), (60, gTwo A hi lo)]) (x0 x1 x2 x3 : Int)
    (h0 : 0 ≤ x0 ∧ x0 < 18446744073709551616) (h1 : 0 ≤ x1 ∧ x1 < 18446744073709551616) (h2 : 0 ≤ x2 ∧ x2 < 18446744073709551616) (h3 : 0 ≤ x3 ∧ x3 < 18446744073709551616) :
    FCall Try.prog 48 [.arr .u64 4 [x0, x1, x2, x3]] (.tup [.arr .u64 4 (e38 [x0, x1, x2, x3]), .int .u64 (c38 [x0, x1, x2, x3])]) := by
  refine FCall.exec (ok_of hA hG) (fn := Try.f48) 100 [] rfl rfl rfl (fun h => ?_)
  conv => { arg 1; cbv }
  subst hA had hca hhi hlo
  refine ⟨?_, ?_⟩
  · simp [obs_nil_iff, obs_cons_iff, s_leq, s_ofNat]
  · simp [s_rd, s_set, s_ofNat, s_add, wrap_u64']
    obtain ⟨y0, hy0⟩ : ∃ y, y = x0 := ⟨_, rfl⟩
    have t0 := t38_step h0 (c := 0) (by omega)
    have t1 := t38_step h1 t0.2.2
    have t2 := t38_step h2 t1.2.2
    have t3 := t38_step h3 t2.2.2
    have z0 : adV (loV x0 38) 0 0 = (loV x0 38) % 18446744073709551616 := by unfold adV; omega
    generalize hc0 : (hiV x0 38 + caV (loV x0 38) 0 0) % 18446744073709551616 = d0 at *
    generalize hc1 : (hiV x1 38 + caV (loV x1 38) d0 0) % 18446744073709551616 = d1 at *
    generalize hc2 : (hiV x2 38 + caV (loV x2 38) d1 0) % 18446744073709551616 = d2 at *
    generalize hc3 : (hiV x3 38 + caV (loV x3 38) d2 0) % 18446744073709551616 = d3 at *
    generalize adV (loV x0 38) 0 0 = r0 at *
    generalize adV (loV x1 38) d0 0 = r1 at *
    generalize adV (loV x2 38) d1 0 = r2 at *
    generalize adV (loV x3 38) d2 0 = r3 at *
    constructor
    · unfold e38
      rw [val4]
      refine enc4_of ?_ ?_ ?_ ?_ ?_ <;> omega
    · unfold c38
      rw [val4]
      omega
theorem h48 : Holds Try.prog 48 (gE_EI e38 c38) := holds_E_EI fun a ha => by
  obtain ⟨a0, a1, a2, a3, rfl, h0, h1, h2, h3⟩ := words4 ha.1 ha.2
  exact w48 stdAr rfl adV caV hiV loV rfl rfl rfl rfl ⟨h59, h60, trivial⟩ _ _ _ _ h0 h1 h2 h3

def muE (a b : LI) : LI := enc4 (val a * val b % pr)
theorem fold_plain {m lo up d o s c t s' c' s'' : Int} (hm : 0 ≤ m) (hmm : m = lo + 115792089237316195423570985008687907853269984665640564039457584007913129639936 * up) (hlo : 0 ≤ lo ∧ lo < 115792089237316195423570985008687907853269984665640564039457584007913129639936) (hup : 0 ≤ up ∧ up < 115792089237316195423570985008687907853269984665640564039457584007913129639936)
    (hd : up * 38 = d + 115792089237316195423570985008687907853269984665640564039457584007913129639936 * o) (hd2 : 0 ≤ d ∧ d < 115792089237316195423570985008687907853269984665640564039457584007913129639936)
    (hs : lo + d = s + 115792089237316195423570985008687907853269984665640564039457584007913129639936 * c) (hs2 : 0 ≤ s ∧ s < 115792089237316195423570985008687907853269984665640564039457584007913129639936)
    (ht : t = 38 * ((o + c) % 18446744073709551616) % 18446744073709551616)
    (hs' : s + t = s' + 115792089237316195423570985008687907853269984665640564039457584007913129639936 * c') (hs'2 : 0 ≤ s' ∧ s' < 115792089237316195423570985008687907853269984665640564039457584007913129639936)
    (hs'' : s'' = (s' + 38 * c' % 18446744073709551616) % 115792089237316195423570985008687907853269984665640564039457584007913129639936) : s'' % 57896044618658097711785492504343953926634992332820282019728792003956564819949 = m % 57896044618658097711785492504343953926634992332820282019728792003956564819949 := by
  have o1 : 0 ≤ o ∧ o < 38 := by omega
  have c1 : c = 0 ∨ c = 1 := by omega
  have t1 : t = 38 * (o + c) := by omega
  have c2 : c' = 0 ∨ c' = 1 := by omega
  have s2 : s'' = s' + 38 * c' := by rcases c2 with rfl | rfl <;> omega
  have key : m = s'' + 57896044618658097711785492504343953926634992332820282019728792003956564819949 * (2 * (up + o + c + c')) := by omega
  rw [key, Int.add_mul_emod_self_left]
theorem muE_of {a b : LI} (ha : E4 a) (hb : E4 b) : ∀ s c s' c' s'', s = plE (poE a b) (e38 (puE a b)) → c = plC (poE a b) (e38 (puE a b)) →
    s' = plE s [(38 * ((c38 (puE a b) + c) % 18446744073709551616)) % 18446744073709551616, 0, 0, 0] → c' = plC s [(38 * ((c38 (puE a b) + c) % 18446744073709551616)) % 18446744073709551616, 0, 0, 0] →
    s'' = plE s' [38 * c' % 18446744073709551616, 0, 0, 0] → rdE s'' = muE a b := by
  intro s c s' c' s'' e1 e2 e3 e4 e5
  obtain ⟨_, la, ua⟩ := enc4_val ha.1 ha.2
  obtain ⟨_, lb, ub⟩ := enc4_val hb.1 hb.2
  have hm := mul_bound (n := 115792089237316195423570985008687907853269984665640564039457584007913129639935) (m := 115792089237316195423570985008687907853269984665640564039457584007913129639935) ⟨la, by omega⟩ ⟨lb, by omega⟩
  unfold rdE muE
  congr 1
  unfold poE puE e38 c38 plE plC at *
  generalize val a * val b = m at *
  have v1 : val (enc4 (m % 115792089237316195423570985008687907853269984665640564039457584007913129639936)) = m % 115792089237316195423570985008687907853269984665640564039457584007913129639936 := val_enc4 (by omega)
  have v2 : val (enc4 (m / 115792089237316195423570985008687907853269984665640564039457584007913129639936)) = m / 115792089237316195423570985008687907853269984665640564039457584007913129639936 := val_enc4 (by omega)
  rw [v1, v2, val_enc4 (by omega)] at e1 e2
  rw [v2] at e3 e4
  have v3 := congrArg val e1
  rw [val_enc4 (by omega)] at v3
  have v4 := congrArg val e3
  rw [val_enc4 (by omega)] at v4
  have v5 := congrArg val e5
  rw [val_enc4 (by omega)] at v5
  have w1 : ∀ x : Int, val [x, 0, 0, 0] = x := fun x => by rw [val4]; omega
  rw [w1] at v4 v5 e4
  unfold pr
  refine fold_plain (lo := m % 115792089237316195423570985008687907853269984665640564039457584007913129639936) (up := m / 115792089237316195423570985008687907853269984665640564039457584007913129639936) (d := m / 115792089237316195423570985008687907853269984665640564039457584007913129639936 * 38 % 115792089237316195423570985008687907853269984665640564039457584007913129639936) (o := m / 115792089237316195423570985008687907853269984665640564039457584007913129639936 * 38 / 115792089237316195423570985008687907853269984665640564039457584007913129639936) (s := val s) (c := c) (s' := val s') (c' := c') hm.1 (by omega) (by omega) (by omega) (by omega) (by omega) (by omega) (by omega) rfl ?_ ?_ ?_
  · omega
  · omega
  · exact v5

theorem w23 (A : Ar) (hA : A = stdAr) (rd : LI → LI) (po pu pl : LI → LI → LI) (pc : LI → LI → Int) (e : LI → LI) (c : LI → Int) (hrd : rd = rdE) (hpo : po = poE) (hpu : pu = puE) (hpl : pl = plE) (hpc : pc = plC) (he : e = e38) (hc : c = c38)
    (hG : allHold Try.prog [(35, gE_E rd), (47, gEE_EE po pu), (48, gE_EI e c), (45, gEE_EI pl pc)]) (a b : LI) (ha : E4 a) (hb : E4 b) : FCall Try.prog 23 [.arr .u64 4 a, .arr .u64 4 b] (.arr .u64 4 (muE a b)) := by
  refine FCall.exec (ok_of hA hG) (fn := Try.f23) 100 [] rfl rfl rfl (fun h => ?_)
  conv => { arg 1; cbv }
  refine ⟨obs_nil, ?_⟩
  subst hA hrd hpo hpu hpl hpc he hc
  have := muE_of ha hb _ _ _ _ _ rfl rfl rfl rfl rfl
  simp only [s_add, s_mul, s_ofNat, nc0, wrap_u64']
  rw [← this]
  rfl
theorem h23 : Holds Try.prog 23 (gEE_E muE) := holds_EE_E fun a b ha hb => w23 stdAr rfl rdE poE puE plE plC e38 c38 rfl rfl rfl rfl rfl rfl rfl ⟨h35, h47, h48, h45, trivial⟩ a b ha hb
end Go.Proofs.SX

namespace Go.Proofs.SX
open Go Go.Proofs
set_option maxRecDepth 100000
set_option linter.unusedVariables false
set_option linter.unusedSimpArgs false

/-- A power by the prime. -/
def pw (g : Int) (e : Nat) : Int := g ^ e % pr
theorem pw_range (g : Int) (e : Nat) : 0 ≤ pw g e ∧ pw g e < pr := by
  unfold pw
  exact ⟨Int.emod_nonneg _ (by unfold pr; omega), Int.emod_lt_of_pos _ (by unfold pr; omega)⟩
theorem val_enc4_pr {n : Int} (h : 0 ≤ n ∧ n < pr) : val (enc4 n) = n := val_enc4 (by unfold pr at h; omega)
theorem E4_enc4 (n : Int) : E4 (enc4 n) := by
  refine ⟨rfl, ?_⟩
  intro x hx
  simp only [enc4, List.mem_cons, List.not_mem_nil, or_false] at hx
  rw [rg64]
  rcases hx with rfl | rfl | rfl | rfl <;> omega
theorem pw_mul {g x y : Int} {e f : Nat} (hx : x % pr = pw g e) (hy : y % pr = pw g f) : x * y % pr = pw g (e + f) := by
  unfold pw at *
  rw [Int.mul_emod, hx, hy, Int.pow_add, ← Int.mul_emod]
theorem pw_self (g : Int) (e : Nat) : pw g e % pr = pw g e := by unfold pw; exact Int.emod_emod_of_dvd _ (Int.dvd_refl _)

def pwE (a n : LI) : LI := enc4 (pw (val a) (val n).toNat)

/-- The exponent so far. -/
def ex (n : LI) (i j : Nat) : Nat := (val (n.take i)).toNat + (n.getD i 0).toNat % 2 ^ j * 2 ^ (64 * i)
def poJ (g : Int) (n : LI) (x : Int × LI × LI) : Prop :=
  (0 ≤ x.1 ∧ x.1 ≤ 4) ∧ E4 x.2.1 ∧ val x.2.1 % pr = pw g (2 ^ (64 * x.1.toNat)) ∧ x.2.2 = enc4 (pw g (val (n.take x.1.toNat)).toNat)
def poS (n z : LI) (x : Int × LI × LI) : St := ⟨mkF [(2, .ptr 0 0), (3, .ptr 1 0), (4, .ptr 2 0), (5, .ptr 3 0), (9, .arr .u64 4 n), (10, .int .i64 x.1)] 29 0,
  [.cells [.arr .u64 4 x.2.1], .cells [.arr .u64 4 n], .cells [.arr .u64 4 z], .cells [.arr .u64 4 x.2.2]]⟩
def pjJ (g : Int) (n : LI) (i : Int) (y : Int × LI × LI × Int) : Prop :=
  (0 ≤ y.1 ∧ y.1 ≤ 64) ∧ E4 y.2.1 ∧ val y.2.1 % pr = pw g (2 ^ (64 * i.toNat + y.1.toNat)) ∧ y.2.2.1 = enc4 (pw g (ex n i.toNat y.1.toNat)) ∧ y.2.2.2 = ((n.getD i.toNat 0).toNat / 2 ^ y.1.toNat : Nat)
def pjS (n z : LI) (i : Int) (y : Int × LI × LI × Int) : St := ⟨mkF [(2, .ptr 0 0), (3, .ptr 1 0), (4, .ptr 2 0), (5, .ptr 3 0), (7, .int .u64 y.2.2.2), (9, .arr .u64 4 n), (10, .int .i64 i), (13, .int .i64 y.1)] 29 0,
  [.cells [.arr .u64 4 y.2.1], .cells [.arr .u64 4 n], .cells [.arr .u64 4 z], .cells [.arr .u64 4 y.2.2.1]]⟩

theorem ex_succ (n : LI) (i j : Nat) : ex n i (j + 1) = ex n i j + (n.getD i 0).toNat / 2 ^ j % 2 * 2 ^ (64 * i + j) := by
  unfold ex
  generalize (n.getD i 0).toNat = m
  have h : m % 2 ^ (j + 1) = m % 2 ^ j + 2 ^ j * (m / 2 ^ j % 2) := by
    rw [Nat.pow_succ, Nat.mod_mul]
  rw [h, Nat.add_mul, Nat.pow_add]
  generalize 2 ^ (64 * i) = s
  generalize 2 ^ j = t
  generalize m / t % 2 = u
  have : t * u * s = u * (s * t) := by rw [Nat.mul_comm t u, Nat.mul_assoc, Nat.mul_comm t s]
  omega
theorem ex_zero (n : LI) (i : Nat) : ex n i 0 = (val (n.take i)).toNat := by
  unfold ex; rw [Nat.pow_zero, Nat.mod_one]; omega
theorem ex_full {n : LI} (hn : E4 n) {i : Nat} (hi : i < 4) : ex n i 64 = (val (n.take (i + 1))).toNat := by
  unfold ex
  rw [val_take_succ _ _ (by rw [hn.1]; exact hi)]
  have h1 := getD_rg hn.2 i
  have h2 : 0 ≤ val (n.take i) := val_nonneg fun x hx => hn.2 x (List.mem_of_mem_take hx)
  obtain ⟨m, hm⟩ := Int.eq_ofNat_of_zero_le h1.1
  obtain ⟨v, hv⟩ := Int.eq_ofNat_of_zero_le h2
  rw [hm, hv]
  have e : (18446744073709551616 : Int) ^ i = ((2 ^ (64 * i) : Nat) : Int) := by
    rw [Nat.pow_mul]; simp
  rw [e]
  have : m < 2 ^ 64 := by omega
  simp only [Int.toNat_natCast]
  rw [Nat.mod_eq_of_lt this]
  have e2 : ((v : Int) + (m : Int) * ((2 ^ (64 * i) : Nat) : Int)) = ((v + m * 2 ^ (64 * i) : Nat) : Int) := by simp
  rw [e2, Int.toNat_natCast]

theorem po_end {g : Int} {n : LI} {i : Int} {j w : Int} {a o : LI} (hn : E4 n) (hi : 0 ≤ i ∧ i < 4) (h : pjJ g n i (j, a, o, w)) (hj : ¬ j < 64) : poJ g n (i + 1, a, o) := by
  obtain ⟨h1, h2, h3, h4, h5⟩ := h
  simp only at *
  have e : j = 64 := by omega
  subst e
  have e1 : (i + 1).toNat = i.toNat + 1 := by omega
  have e2 : ((64 : Int)).toNat = 64 := rfl
  rw [e2] at h3 h4
  refine ⟨by simp only; omega, h2, ?_, ?_⟩
  · simp only; rw [e1, h3, Nat.mul_add]
  · simp only; rw [e1, h4, ex_full hn (by omega)]

/-- One step: the bit is there. -/
theorem pj_step {g : Int} {n : LI} {i : Int} {j w : Int} {a o : LI} (hn : E4 n) (hi : 0 ≤ i ∧ i < 4) (h : pjJ g n i (j, a, o, w)) (hj : j < 64) :
    (w % 2 = 1 → pjJ g n i (j + 1, muE a a, muE o a, w / 2)) ∧ (w % 2 ≠ 1 → pjJ g n i (j + 1, muE a a, o, w / 2)) := by
  obtain ⟨h1, h2, h3, h4, h5⟩ := h
  simp only at *
  have e1 : (j + 1).toNat = j.toNat + 1 := by omega
  have hsq : E4 (muE a a) ∧ val (muE a a) % pr = pw g (2 ^ (64 * i.toNat + (j + 1).toNat)) := by
    refine ⟨E4_enc4 _, ?_⟩
    unfold muE
    have r : 0 ≤ val a * val a % pr ∧ val a * val a % pr < pr := ⟨Int.emod_nonneg _ (by unfold pr; omega), Int.emod_lt_of_pos _ (by unfold pr; omega)⟩
    rw [val_enc4_pr r, pw_mul h3 h3, pw_self, e1]
    congr 1
    rw [← Nat.add_assoc, Nat.pow_succ]; omega
  have hw : w / 2 = ((n.getD i.toNat 0).toNat / 2 ^ (j + 1).toNat : Nat) := by
    rw [h5, e1, Nat.pow_succ, ← Nat.div_div_eq_div_mul]; omega
  have hw2 : w % 2 = ((n.getD i.toNat 0).toNat / 2 ^ j.toNat % 2 : Nat) := by rw [h5]; omega
  constructor
  · intro hb
    refine ⟨by simp only; omega, hsq.1, hsq.2, ?_, hw⟩
    simp only
    unfold muE
    congr 1
    rw [h4, val_enc4_pr (pw_range _ _), e1, ex_succ, pw_mul (pw_self _ _) h3]
    have : (n.getD i.toNat 0).toNat / 2 ^ j.toNat % 2 = 1 := by omega
    rw [this, Nat.one_mul]
  · intro hb
    refine ⟨by simp only; omega, hsq.1, hsq.2, ?_, hw⟩
    simp only
    rw [h4, e1, ex_succ]
    have : (n.getD i.toNat 0).toNat / 2 ^ j.toNat % 2 = 0 := by omega
    rw [this, Nat.zero_mul, Nat.add_zero]
end Go.Proofs.SX

namespace Go.Proofs.SX
open Go Go.Proofs
set_option maxRecDepth 100000
set_option linter.unusedVariables false
set_option linter.unusedSimpArgs false

theorem nc64 : ((64 : Nat) : Int) = 64 := rfl
theorem w49 (A : Ar) (hA : A = stdAr) (mu : LI → LI → LI) (hmu : mu = muE) (fr1 : Int → LI) (hfr : fr1 = fun x => [x, 0, 0, 0]) (hG : allHold Try.prog [(46, gI_E A fr1), (23, gEE_E mu)]) (a n : LI) (ha : E4 a) (hn : E4 n) :
    FCall Try.prog 49 [.arr .u64 4 a, .arr .u64 4 n] (.arr .u64 4 (pwE a n)) := by
  have k := ok_of hA hG
  refine FCall.of_body k (fn := Try.f49) rfl rfl rfl rfl (fun _ => ?_)
  refine AWP.seq (AWP.go k 100 [] ?_)
  conv => { arg 1; cbv }
  refine ⟨obs_nil, ?_⟩
  dsimp only [sthen]
  refine AWP.seq (AWP.go k 100 [] ?_)
  conv => { arg 1; cbv }
  refine ⟨obs_nil, ?_⟩
  dsimp only [sthen]
  refine AWP.seq (AWP.seq (AWP.go k 100 [] ?_))
  conv => { arg 1; cbv }
  refine ⟨obs_nil, ?_⟩
  dsimp only [sthen]
  refine AWP.block ?_
  refine AWP.loopP (poS n (A.zeros 4)) (poJ (val a) n) (fun x => (4 - x.1).toNat) (0, a, fr1 (A.ofNat 1)) ?_ ?_ ?_
  · refine ⟨?_, ?_, rfl⟩
    · repeat' (first | exact .nil | exact .any _ | exact .same _ | exact .lit _ _ | refine .cons ?_ ?_)
    · repeat' (first | exact .nil _ | exact .same _ | refine .cons ?_ ?_)
  · subst hA hfr
    refine ⟨by simp only; omega, ha, ?_, ?_⟩
    · show val a % pr = pw (val a) 1
      unfold pw; rw [Int.pow_succ, Int.pow_zero, Int.one_mul]
    · show [((1 : Nat) : Int), 0, 0, 0] = enc4 (pw (val a) (val ([] : LI)).toNat)
      refine enc4_of (by omega) (by omega) (by omega) (by omega) ?_
      simp [val, pw, pr]
  · rintro ⟨i, x, o⟩ hJ
    have hi0 : 0 ≤ i ∧ i ≤ 4 := hJ.1
    refine AWP.split (A.cmp .lss i (A.ofNat 4)) (fun hlt => ?_) (fun hlt => ?_)
    · have hlt4 : i < 4 := by subst hA; simpa [s_lss, s_ofNat] using hlt
      have ei : IntKind.wrap .i64 (i + 1) = i + 1 := wrap_i64' _ (by omega)
      refine AWP.seq (AWP.go k 100 [] ?_)
      conv => { arg 1; cbv }
      refine ⟨obs_nil, ?_⟩
      dsimp only [sthen]
      refine AWP.seq (AWP.go k 100 [true] ?_)
      conv => { arg 1; cbv }
      refine ⟨obs_cons hlt obs_nil, ?_⟩
      dsimp only [sthen]
      refine AWP.seq (AWP.block ?_)
      refine AWP.seq (AWP.go k 100 [] ?_)
      conv => { arg 1; cbv }
      refine ⟨?_, ?_⟩
      · subst hA; simp [obs_nil_iff, obs_cons_iff, s_lss, s_leq, s_ofNat]; omega
      dsimp only [sthen]
      refine AWP.seq (AWP.go k 100 [] ?_)
      conv => { arg 1; cbv }
      refine ⟨obs_nil, ?_⟩
      dsimp only [sthen]
      refine AWP.block ?_
      refine AWP.loopP (pjS n (A.zeros 4) i) (pjJ (val a) n i) (fun y => (64 - y.1).toNat) (0, x, o, A.rd n i) ?_ ?_ ?_
      · refine ⟨?_, ?_, rfl⟩
        · repeat' (first | exact .nil | exact .any _ | exact .same _ | exact .lit _ _ | refine .cons ?_ ?_)
        · repeat' (first | exact .nil _ | exact .same _ | refine .cons ?_ ?_)
      · refine ⟨by simp only; omega, hJ.2.1, hJ.2.2.1, ?_, ?_⟩
        · exact hJ.2.2.2.trans (congrArg (fun e => enc4 (pw (val a) e)) (ex_zero n i.toNat).symm)
        · subst hA
          have := getD_rg hn.2 i.toNat
          show n.getD i.toNat 0 = (((n.getD i.toNat 0).toNat / 2 ^ 0 : Nat) : Int)
          rw [Nat.pow_zero, Nat.div_one]; omega
      · rintro ⟨j, y, q, w⟩ hI
        have hj0 : 0 ≤ j ∧ j ≤ 64 := hI.1
        have hw : 0 ≤ w ∧ w < 18446744073709551616 := by
          have h5 := hI.2.2.2.2
          simp only at h5
          have := getD_rg hn.2 i.toNat
          have h6 : (n.getD i.toNat 0).toNat / 2 ^ j.toNat ≤ (n.getD i.toNat 0).toNat := Nat.div_le_self _ _
          generalize (n.getD i.toNat 0).toNat / 2 ^ j.toNat = m at h5 h6
          omega
        refine AWP.split (A.cmp .lss j (A.ofNat 64)) (fun hlt2 => ?_) (fun hlt2 => ?_)
        · have hlt24 : j < 64 := by subst hA; simpa [s_lss, s_ofNat] using hlt2
          have e2 : IntKind.wrap .i64 (j + 1) = j + 1 := wrap_i64' _ (by omega)
          obtain ⟨st1, st2⟩ := pj_step hn ⟨hi0.1, hlt4⟩ hI hlt24
          have b1 : stdAr.bin .and .u64 w 1 = w % 2 := s_and_low 1 (by omega) hw (by decide)
          have b2 : stdAr.bin .shr .u64 w 1 = w / 2 := s_shr 1 (by omega) hw rfl
          refine AWP.split (A.cmp .neq (A.bin .and .u64 w (A.ofNat 1)) (A.ofNat 0)) (fun hbit => ?_) (fun hbit => ?_)
          · refine AWP.go k 100 [true, true] ?_
            conv => { arg 1; cbv }
            refine ⟨?_, ?_⟩
            · subst hA
              simp only [obs_nil_iff, obs_cons_iff]
              exact ⟨rfl, hbit, hlt2, trivial⟩
            · apply handed.mk (_, _, _, _)
              · refine ⟨?_, ?_, rfl⟩
                · repeat' (first | exact .nil | exact .any _ | exact .same _ | exact .lit _ _ | refine .cons ?_ ?_)
                · repeat' (first | exact .nil _ | exact .same _ | refine .cons ?_ ?_)
              · subst hA hmu
                simp only [s_neq, s_ofNat, nc0, nc1, b1, bne_iff_ne, ne_eq] at hbit
                have := st1 (by omega)
                simpa only [s_add, s_ofNat, nc0, nc1, e2, b2] using this
              · subst hA
                simp only [s_add, s_ofNat, nc1, e2]
                omega
          · refine AWP.go k 100 [true, false] ?_
            conv => { arg 1; cbv }
            refine ⟨?_, ?_⟩
            · subst hA
              simp only [obs_nil_iff, obs_cons_iff]
              exact ⟨rfl, hbit, hlt2, trivial⟩
            · apply handed.mk (_, _, _, _)
              · refine ⟨?_, ?_, rfl⟩
                · repeat' (first | exact .nil | exact .any _ | exact .same _ | exact .lit _ _ | refine .cons ?_ ?_)
                · repeat' (first | exact .nil _ | exact .same _ | refine .cons ?_ ?_)
              · subst hA hmu
                simp only [s_neq, s_ofNat, nc0, nc1, b1] at hbit
                have h0 : w % 2 = 0 := by simpa using hbit
                have := st2 (by omega)
                simpa only [s_add, s_ofNat, nc0, nc1, e2, b2] using this
              · subst hA
                simp only [s_add, s_ofNat, nc1, e2]
                omega
        · have hge : ¬ j < 64 := by subst hA; simpa [s_lss, s_ofNat] using hlt2
          refine AWP.go k 100 [false] ?_
          conv => { arg 1; cbv }
          refine ⟨obs_cons hlt2 obs_nil, ?_⟩
          dsimp only [handed, sblock, sthen]
          rw [if_pos rfl]
          refine AWP.go k 100 [] ?_
          conv => { arg 1; cbv }
          refine ⟨obs_nil, ?_⟩
          apply handed.mk (_, _, _)
          · refine ⟨?_, ?_, rfl⟩
            · repeat' (first | exact .nil | exact .any _ | exact .same _ | exact .lit _ _ | refine .cons ?_ ?_)
            · repeat' (first | exact .nil _ | exact .same _ | refine .cons ?_ ?_)
          · subst hA
            have := po_end hn ⟨hi0.1, hlt4⟩ hI hge
            simpa only [s_add, s_ofNat, nc0, nc1, ei] using this
          · subst hA
            simp only [s_add, s_ofNat, nc1, ei]
            omega
    · have hge : ¬ i < 4 := by subst hA; simpa [s_lss, s_ofNat] using hlt
      refine AWP.go k 100 [false] ?_
      conv => { arg 1; cbv }
      refine ⟨obs_cons hlt obs_nil, ?_⟩
      dsimp only [handed, sblock, sthen]
      rw [if_pos rfl]
      refine AWP.go k 100 [] ?_
      conv => { arg 1; cbv }
      refine ⟨obs_nil, ?_⟩
      refine ⟨fun id => by simp, ?_⟩
      conv => { lhs; cbv }
      have hi4 : i = 4 := by omega
      subst hi4
      have h4 := hJ.2.2.2
      simp only at h4
      rw [h4, show n.take (4 : Int).toNat = n from List.take_of_length_le (by rw [hn.1]; exact Nat.le_refl _)]
      rfl
theorem h49 : Holds Try.prog 49 (gEE_E pwE) := holds_EE_E fun a n ha hn => w49 stdAr rfl muE rfl _ rfl ⟨h46, h23, trivial⟩ a n ha hn
end Go.Proofs.SX

namespace Go.Proofs.SX
open Go Go.Proofs
set_option maxRecDepth 100000
set_option linter.unusedVariables false
set_option linter.unusedSimpArgs false

def p2E : LI := [18446744073709551595, 18446744073709551615, 18446744073709551615, 9223372036854775807]
def e8E : LI := [18446744073709551614, 18446744073709551615, 18446744073709551615, 1152921504606846975]
def q4E : LI := [18446744073709551611, 18446744073709551615, 18446744073709551615, 2305843009213693951]
def inE (a : LI) : LI := pwE a p2E
theorem p2E_eq : mnE prE [2, 0, 0, 0] = p2E := by unfold mnE; rw [val_prE, val4]; unfold pr p2E enc4; decide
theorem w26 (A : Ar) (hA : A = stdAr) (mn pw : LI → LI → LI) (mc : LI → LI → Int) (fr1 : Int → LI) (hG : allHold Try.prog [(44, g0 (.arr .u64 4 prE)), (46, gI_E A fr1), (43, gEE_EI mn mc), (49, gEE_E pw)]) (a : LI) :
    FCall Try.prog 26 [.arr .u64 4 a] (.arr .u64 4 (pw a (mn prE (fr1 (A.ofNat 2))))) := by
  refine FCall.exec (ok_of hA hG) (fn := Try.f26) 100 [] rfl rfl rfl (fun h => ?_)
  conv => { arg 1; cbv }
  exact ⟨obs_nil, rfl⟩
theorem h26 : Holds Try.prog 26 (gE_E inE) := holds_E_E fun a ha => by
  have h := w26 stdAr rfl mnE pwE mnC _ ⟨h44, h46, h43, h49, trivial⟩ a
  unfold inE
  rw [← p2E_eq]
  exact h

def sqB (r a : LI) : Bool := stdAr.eqs (muE r r) (rdE a)
theorem w50 (A : Ar) (hA : A = stdAr) (rd : LI → LI) (mu : LI → LI → LI) (hG : allHold Try.prog [(35, gE_E rd), (23, gEE_E mu)]) (r a : LI) :
    FCall Try.prog 50 [.arr .u64 4 r, .arr .u64 4 a] (.bool (A.eqs (mu r r) (rd a))) := by
  refine FCall.exec (ok_of hA hG) (fn := Try.f50) 100 [] rfl rfl rfl (fun h => ?_)
  conv => { arg 1; cbv }
  exact ⟨obs_nil, rfl⟩
theorem h50 : Holds Try.prog 50 (gEE_B sqB) := holds_EE_B fun r a _ _ => w50 stdAr rfl rdE muE ⟨h35, h23, trivial⟩ r a

def rt1 (a : LI) : LI := pwE a e8E
def rt2 (a : LI) : LI := bif sqB (rt1 a) a then rt1 a else muE (rt1 a) (pwE [2, 0, 0, 0] q4E)
def rtB (a : LI) : Bool := sqB (rt2 a) a
def rtE (a : LI) : LI := bif rtB a then (if (rt2 a).getD 0 0 % 2 = 1 then suE [0, 0, 0, 0] (rt2 a) else rt2 a) else [0, 0, 0, 0]
theorem E4_rt2 (a : LI) : E4 (rt2 a) := by
  unfold rt2
  cases sqB (rt1 a) a
  · exact E4_enc4 _
  · exact E4_enc4 _
theorem w25 (A : Ar) (hA : A = stdAr) (su mu pw : LI → LI → LI) (sq : LI → LI → Bool) (fr1 : Int → LI) (hsu : su = suE) (hmu : mu = muE) (hpw : pw = pwE) (hsq : sq = sqB) (hfr : fr1 = fun x => [x, 0, 0, 0])
    (hG : allHold Try.prog [(49, gEE_E pw), (50, gEE_B sq), (23, gEE_E mu), (46, gI_E A fr1), (20, gEE_E su)]) (a : LI) :
    FCall Try.prog 25 [.arr .u64 4 a] (.tup [.arr .u64 4 (rtE a), .bool (rtB a)]) := by
  have k := ok_of hA hG
  have hr := getD_rg (E4_rt2 a).2 0
  have b1 : stdAr.bin .and .u64 ((rt2 a).getD 0 0) 1 = (rt2 a).getD 0 0 % 2 := s_and_low 1 (by omega) hr (by decide)
  have fin : ∀ (r2 : LI) (ds : List Bool), rt2 a = r2 → sqB r2 a = true → (r2.getD 0 0 % 2 = 1 → rtE a = suE [0, 0, 0, 0] r2 ∧ rtB a = true ∧ stdAr.cmp .neq (stdAr.bin .and .u64 (stdAr.rd r2 (stdAr.ofNat 0)) (stdAr.ofNat 1)) (stdAr.ofNat 0) = true) ∧
      (r2.getD 0 0 % 2 ≠ 1 → rtE a = r2 ∧ rtB a = true ∧ stdAr.cmp .neq (stdAr.bin .and .u64 (stdAr.rd r2 (stdAr.ofNat 0)) (stdAr.ofNat 1)) (stdAr.ofNat 0) = false) := by
    intro r2 ds e hs
    rw [e] at hr b1
    have e3 : stdAr.bin .and .u64 (stdAr.rd r2 (stdAr.ofNat 0)) (stdAr.ofNat 1) = r2.getD 0 0 % 2 := b1
    rw [e3]
    have hB : rtB a = true := by unfold rtB; rw [e]; exact hs
    constructor
    · intro ho
      refine ⟨by unfold rtE; rw [hB, e]; exact if_pos ho, hB, ?_⟩
      rw [ho]; rfl
    · intro ho
      refine ⟨by unfold rtE; rw [hB, e]; exact if_neg ho, hB, ?_⟩
      have : r2.getD 0 0 % 2 = 0 := by omega
      rw [this]; rfl
  cases c1 : sqB (rt1 a) a
  · have e2 : rt2 a = muE (rt1 a) (pwE [2, 0, 0, 0] q4E) := by unfold rt2; rw [c1]; rfl
    have o1 : stdAr.not (sqB (rt1 a) a) = true := by rw [c1]; rfl
    cases c2 : sqB (muE (rt1 a) (pwE [2, 0, 0, 0] q4E)) a
    · refine FCall.exec k (fn := Try.f25) 100 [true, true] rfl rfl rfl (fun h => ?_)
      conv => { arg 1; cbv }
      subst hA hsu hmu hpw hsq hfr
      have o2 : stdAr.not (sqB (muE (rt1 a) (pwE [2, 0, 0, 0] q4E)) a) = true := by rw [c2]; rfl
      have hB : rtB a = false := by unfold rtB; rw [e2]; exact c2
      have hE : rtE a = [0, 0, 0, 0] := by unfold rtE; rw [hB]; rfl
      rw [hE, hB]
      exact ⟨obs_cons o2 (obs_cons o1 obs_nil), rfl⟩
    · have o2 : stdAr.not (sqB (muE (rt1 a) (pwE [2, 0, 0, 0] q4E)) a) = false := by rw [c2]; rfl
      obtain ⟨f1, f2⟩ := fin _ [] e2 c2
      by_cases ho : (muE (rt1 a) (pwE [2, 0, 0, 0] q4E)).getD 0 0 % 2 = 1
      · obtain ⟨hE, hB, o3⟩ := f1 ho
        refine FCall.exec k (fn := Try.f25) 100 [true, false, true] rfl rfl rfl (fun h => ?_)
        conv => { arg 1; cbv }
        subst hA hsu hmu hpw hsq hfr
        rw [hE, hB]
        exact ⟨obs_cons o3 (obs_cons o2 (obs_cons o1 obs_nil)), rfl⟩
      · obtain ⟨hE, hB, o3⟩ := f2 ho
        refine FCall.exec k (fn := Try.f25) 100 [true, false, false] rfl rfl rfl (fun h => ?_)
        conv => { arg 1; cbv }
        subst hA hsu hmu hpw hsq hfr
        rw [hE, hB]
        exact ⟨obs_cons o3 (obs_cons o2 (obs_cons o1 obs_nil)), rfl⟩
  · have e2 : rt2 a = rt1 a := by unfold rt2; rw [c1]; rfl
    have o1 : stdAr.not (sqB (rt1 a) a) = false := by rw [c1]; rfl
    obtain ⟨f1, f2⟩ := fin _ [] e2 c1
    by_cases ho : (rt1 a).getD 0 0 % 2 = 1
    · obtain ⟨hE, hB, o3⟩ := f1 ho
      refine FCall.exec k (fn := Try.f25) 100 [false, false, true] rfl rfl rfl (fun h => ?_)
      conv => { arg 1; cbv }
      subst hA hsu hmu hpw hsq hfr
      rw [hE, hB]
      exact ⟨obs_cons o3 (obs_cons o1 (obs_cons o1 obs_nil)), rfl⟩
    · obtain ⟨hE, hB, o3⟩ := f2 ho
      refine FCall.exec k (fn := Try.f25) 100 [false, false, false] rfl rfl rfl (fun h => ?_)
      conv => { arg 1; cbv }
      subst hA hsu hmu hpw hsq hfr
      rw [hE, hB]
      exact ⟨obs_cons o3 (obs_cons o1 (obs_cons o1 obs_nil)), rfl⟩
theorem h25 : Holds Try.prog 25 (gE_EB rtE rtB) := holds_E_EB fun a _ => w25 stdAr rfl suE muE pwE sqB _ rfl rfl rfl rfl rfl ⟨h49, h50, h23, h46, h20, trivial⟩ a
end Go.Proofs.SX

namespace Go.Proofs.SX
open Go Go.Proofs
set_option maxRecDepth 100000
set_option linter.unusedVariables false
set_option linter.unusedSimpArgs false

/-- The bytes of words. -/
def byL (a : LI) : LI := (List.range 32).map fun i => a.getD (i / 8) 0 / 2 ^ (8 * (i % 8)) % 256
def byE (a : LI) : LI := byL (rdE a)
theorem w37 (A : Ar) (hA : A = stdAr) (rd : LI → LI) (hG : allHold Try.prog [(35, gE_E rd)]) (a : LI) (ha : E4 (rd a)) :
    FCall Try.prog 37 [.arr .u64 4 a] (.arr .u8 32 (byL (rd a))) := by
  refine FCall.exec (ok_of hA hG) (fn := Try.f37) 100 [] rfl rfl rfl (fun h => ?_)
  conv => { arg 1; cbv }
  subst hA
  generalize rd a = c at *
  obtain ⟨c0, c1, c2, c3, rfl, h0, h1, h2, h3⟩ := words4 ha.1 ha.2
  refine ⟨?_, ?_⟩
  · simp only [obs_nil_iff, obs_cons_iff]
    simp [s_eql, s_leq, s_ofNat]
  · have g : ∀ (w : Int), (0 ≤ w ∧ w < 18446744073709551616) → ∀ n : Nat, n ≤ 64 → stdAr.wrap .u8 (stdAr.bin .shr .u64 w (n : Int)) = w / 2 ^ n % 256 := fun w hw n hn => s_byte n hn hw rfl
    have r0 : stdAr.rd [c0, c1, c2, c3] ((0 : Nat) : Int) = c0 := rfl
    have r1 : stdAr.rd [c0, c1, c2, c3] ((1 : Nat) : Int) = c1 := rfl
    have r2 : stdAr.rd [c0, c1, c2, c3] ((2 : Nat) : Int) = c2 := rfl
    have r3 : stdAr.rd [c0, c1, c2, c3] ((3 : Nat) : Int) = c3 := rfl
    simp only [r0, r1, r2, r3, g c0 h0, g c1 h1, g c2 h2, g c3 h3, Nat.reduceLeDiff, s_set, s_ofNat, s_zeros, Int.toNat_natCast, List.replicate, List.set_cons_succ, List.set_cons_zero]
    rfl
theorem h37 : Holds Try.prog 37 (gE_32 byE) := holds_E_32 fun a ha => w37 stdAr rfl rdE ⟨h35, trivial⟩ a (E4_enc4 _)

def reB (b : LI) : Bool := decide (vb b < pr)
def reE (b : LI) : LI := if vb b < pr then enc4 (vb b) else [0, 0, 0, 0]
def reJ (b : LI) (x : Int × LI) : Prop := (0 ≤ x.1 ∧ x.1 ≤ 32) ∧ E4 x.2 ∧ val x.2 = vb (b.take x.1.toNat)
def reS (b z : LI) (x : Int × LI) : St := ⟨mkF [(2, .ptr 1 0), (4, .ptr 2 0), (9, .arr .u8 32 b), (10, .int .i64 x.1)] 37 0, [.cells [.arr .u8 32 b], .cells [.arr .u64 4 z], .cells [.arr .u64 4 x.2]]⟩
theorem w18 (A : Ar) (hA : A = stdAr) (mn : LI → LI → LI) (mc : LI → LI → Int) (hmc : mc = mnC) (hG : allHold Try.prog [(44, g0 (.arr .u64 4 prE)), (43, gEE_EI mn mc)]) (b : LI) (hb : b.length = 32 ∧ RgL .u8 b) :
    FCall Try.prog 18 [.arr .u8 32 b] (.tup [.arr .u64 4 (reE b), .bool (reB b)]) := by
  have k := ok_of hA hG
  refine FCall.of_body k (fn := Try.f18) rfl rfl rfl rfl (fun _ => ?_)
  refine AWP.seq (AWP.go k 100 [] ?_)
  conv => { arg 1; cbv }
  refine ⟨obs_nil, ?_⟩
  dsimp only [sthen]
  refine AWP.seq (AWP.go k 100 [] ?_)
  conv => { arg 1; cbv }
  refine ⟨obs_nil, ?_⟩
  dsimp only [sthen]
  refine AWP.seq (AWP.seq (AWP.go k 100 [] ?_))
  conv => { arg 1; cbv }
  refine ⟨obs_nil, ?_⟩
  dsimp only [sthen]
  refine AWP.block ?_
  refine AWP.loopP (reS b (A.zeros 4)) (reJ b) (fun x => (32 - x.1).toNat) (0, A.zeros 4) ?_ ?_ ?_
  · refine ⟨?_, ?_, rfl⟩
    · repeat' (first | exact .nil | exact .any _ | exact .same _ | exact .lit _ _ | refine .cons ?_ ?_)
    · repeat' (first | exact .nil _ | exact .same _ | refine .cons ?_ ?_)
  · subst hA
    exact ⟨by simp only; omega, ⟨rfl, rgL_zeros _ _⟩, by simp [s_zeros, val, vb]⟩
  · rintro ⟨i, p⟩ hJ
    have hi0 : 0 ≤ i ∧ i ≤ 32 := hJ.1
    have hp : E4 p := hJ.2.1
    refine AWP.split (A.cmp .lss i (A.ofNat 32)) (fun hlt => ?_) (fun hlt => ?_)
    · have hlt4 : i < 32 := by subst hA; simpa [s_lss, s_ofNat] using hlt
      obtain ⟨n, hn⟩ : ∃ n, n = i.toNat := ⟨_, rfl⟩
      have hni : i = (n : Int) := by omega
      have hJ2 := hJ.2.2
      simp only [← hn] at hJ2
      obtain ⟨l1, l2, l3, l4, l5, l6, l7⟩ := lay_step hb (by omega : n < 32) hp hJ2
      have q1 : stdAr.bin .quo .i64 i 8 = ((n / 8 : Nat) : Int) := by rw [hni]; rw [s_quo (by omega) (by omega)]; simp
      have q2 : stdAr.bin .rem .i64 i 8 = ((n % 8 : Nat) : Int) := by rw [hni]; rw [s_rem (by omega) (by omega)]; simp
      have q3 : IntKind.wrap .i64 (8 * ((n % 8 : Nat) : Int)) = ((8 * (n % 8) : Nat) : Int) := by rw [wrap_i64' _ (by omega)]; simp
      have q4 : IntKind.wrap .u64 (b.getD n 0) = b.getD n 0 := by rw [wrap_u64']; omega
      have q5 : stdAr.bin .shl .u64 (b.getD n 0) ((8 * (n % 8) : Nat) : Int) = b.getD n 0 * 2 ^ (8 * (n % 8)) := by
        rw [s_shl (8 * (n % 8)) (by omega) rfl]
        exact Int.emod_eq_of_lt (Int.mul_nonneg l2.1 (Int.le_of_lt (Int.pow_pos (by omega)))) l3
      have q6 := s_or_disj (8 * (n % 8)) (by omega) l1 ⟨l2.1, l3⟩
      have e1 : IntKind.wrap .i64 (i + 1) = i + 1 := wrap_i64' _ (by omega)
      refine AWP.go k 100 [true] ?_
      conv => { arg 1; cbv }
      refine ⟨?_, ?_⟩
      · subst hA
        simp only [obs_nil_iff, obs_cons_iff, s_lss, s_leq, s_eql, s_ofNat, nc8, nc0, nc4, s_mul, s_add, q1, q2, q3, decide_eq_true_eq, and_true, true_and]
        refine ⟨?_, ?_, ?_, rfl, ?_, ?_, rfl, ?_, ?_, ?_⟩ <;> omega
      · apply handed.mk (_, _)
        · refine ⟨?_, ?_, rfl⟩
          · repeat' (first | exact .nil | exact .any _ | exact .same _ | exact .lit _ _ | refine .cons ?_ ?_)
          · repeat' (first | exact .nil _ | exact .same _ | refine .cons ?_ ?_)
        · subst hA
          have : reJ b (i + 1, p.set (n / 8) (p.getD (n / 8) 0 + b.getD n 0 * 2 ^ (8 * (n % 8)))) := ⟨by simp only; omega, ⟨l5, l6⟩, by simp only; rw [show (i + 1).toNat = n + 1 by omega]; exact l7⟩
          simpa only [s_add, s_mul, s_ofNat, nc0, nc1, nc8, s_rd, s_set, s_wrap, e1, q1, q2, q3, q4, q5, q6, Int.toNat_natCast, ← hn] using this
        · subst hA
          simp only [s_add, s_ofNat, nc1, e1]
          omega
    · have hge : ¬ i < 32 := by subst hA; simpa [s_lss, s_ofNat] using hlt
      refine AWP.go k 100 [false] ?_
      conv => { arg 1; cbv }
      refine ⟨obs_cons hlt obs_nil, ?_⟩
      dsimp only [handed, sblock, sthen]
      rw [if_pos rfl]
      have hi4 : i = 32 := by omega
      subst hi4
      have hv : val p = vb b := by
        have := hJ.2.2
        simp only at this
        rw [this, List.take_of_length_le (by rw [hb.1]; decide)]
      obtain ⟨g1, g2, g3⟩ := enc4_val hp.1 hp.2
      refine AWP.split (A.cmp .eql (mc p prE) (A.ofNat 0)) (fun hc => ?_) (fun hc => ?_)
      · refine AWP.go k 100 [true] ?_
        conv => { arg 1; cbv }
        refine ⟨obs_cons hc obs_nil, ?_⟩
        refine ⟨fun id => by simp, ?_⟩
        conv => { lhs; cbv }
        subst hA hmc
        have hc' : mnC p prE = 0 := by simpa [s_eql, s_ofNat] using hc
        have hge : ¬ vb b < pr := by
          unfold mnC at hc'
          rw [val_prE, hv] at hc'
          intro h; rw [if_pos h] at hc'; omega
        have e1 : reE b = [0, 0, 0, 0] := if_neg hge
        have e2 : reB b = false := decide_eq_false hge
        rw [e1, e2]
      · refine AWP.go k 100 [false] ?_
        conv => { arg 1; cbv }
        refine ⟨obs_cons hc obs_nil, ?_⟩
        refine ⟨fun id => by simp, ?_⟩
        conv => { lhs; cbv }
        subst hA hmc
        have hc' : mnC p prE ≠ 0 := by simpa [s_eql, s_ofNat] using hc
        have hge : vb b < pr := by
          apply Classical.byContradiction
          unfold mnC at hc'
          rw [val_prE, hv] at hc'
          intro h; rw [if_neg h] at hc'; omega
        have e1 : reE b = p := by unfold reE; rw [if_pos hge, ← hv, g1]
        have e2 : reB b = true := decide_eq_true hge
        rw [e1, e2]
theorem h18 : Holds Try.prog 18 (g32_EB reE reB) := holds_32_EB fun b h1 h2 => w18 stdAr rfl mnE mnC rfl ⟨h44, h43, trivial⟩ b ⟨h1, h2⟩
end Go.Proofs.SX

namespace Go.Proofs.SX
open Go Go.Proofs
set_option maxRecDepth 100000
set_option linter.unusedVariables false
set_option linter.unusedSimpArgs false

theorem w53 (A : Ar) (hA : A = stdAr) : FCall Try.prog 53 [] (.arr .u64 4 [A.ofNat 18446744073709551597, A.ofNat 18446744073709551615, A.ofNat 18446744073709551615, A.ofNat 9223372036854775807]) := by
  refine FCall.exec (ok_of (l := []) hA trivial) (fn := Try.f53) 100 [] rfl rfl rfl (fun h => ?_)
  conv => { arg 1; cbv }
  exact ⟨obs_nil, rfl⟩
theorem h53 : Holds Try.prog 53 (g0 (.arr .u64 4 prE)) := holds_0 (w53 stdAr rfl)

def lsB (a b : LI) : Bool := decide (val a < val b)
def lsJ (a b : LI) (x : Int × LI × Int) : Prop :=
  (0 ≤ x.1 ∧ x.1 ≤ 4) ∧ E4 x.2.1 ∧ (0 ≤ x.2.2 ∧ x.2.2 ≤ 1) ∧ val (a.take x.1.toNat) - val (b.take x.1.toNat) = val x.2.1 - x.2.2 * 18446744073709551616 ^ x.1.toNat ∧ ∀ j, x.1.toNat ≤ j → x.2.1.getD j 0 = 0
def lsS (a b z : LI) (x : Int × LI × Int) : St := ⟨mkF [(2, .ptr 0 0), (3, .ptr 1 0), (4, .ptr 2 0), (6, .ptr 3 0), (7, .int .u64 x.2.2), (8, .int .i64 x.1)] 48 0,
  [.cells [.arr .u64 4 a], .cells [.arr .u64 4 b], .cells [.arr .u64 4 z], .cells [.arr .u64 4 x.2.1]]⟩
theorem ls_step {a b : LI} {i : Int} {d : LI} {c : Int} (ha : E4 a) (hb : E4 b) (hi : i < 4) (h : lsJ a b (i, d, c)) :
    ∀ c' : Int, (a.getD i.toNat 0 < b.getD i.toNat 0 ∧ c' = 1 ∨ a.getD i.toNat 0 = b.getD i.toNat 0 ∧ c' = c ∨ b.getD i.toNat 0 < a.getD i.toNat 0 ∧ c' = 0) →
    lsJ a b (i + 1, d.set i.toNat (((a.getD i.toNat 0 - b.getD i.toNat 0) % 18446744073709551616 - c) % 18446744073709551616), c') := by
  intro c' hc'
  obtain ⟨h1, h2, h3, h4, h5⟩ := h
  simp only at h1 h2 h3 h4 h5
  have ra := getD_rg ha.2 i.toNat
  have rb := getD_rg hb.2 i.toNat
  have e1 : (i + 1).toNat = i.toNat + 1 := by omega
  have key : ((a.getD i.toNat 0 - b.getD i.toNat 0) % 18446744073709551616 - c) % 18446744073709551616 - c' * 18446744073709551616 = a.getD i.toNat 0 - b.getD i.toNat 0 - c := by
    rcases hc' with ⟨_, rfl⟩ | ⟨_, rfl⟩ | ⟨_, rfl⟩ <;> omega
  refine ⟨by simp only; omega, ⟨by simp [h2.1], rgL_set h2.2 _ (rg64.2 (by omega))⟩, by simp only; omega, ?_, ?_⟩
  · simp only
    rw [e1, val_take_succ _ _ (by rw [ha.1]; omega), val_take_succ _ _ (by rw [hb.1]; omega), val_set _ _ _ (by rw [h2.1]; omega), h5 _ (Nat.le_refl _), Int.pow_succ]
    generalize ((a.getD i.toNat 0 - b.getD i.toNat 0) % 18446744073709551616 - c) % 18446744073709551616 = e at *
    generalize a.getD i.toNat 0 = x at *
    generalize b.getD i.toNat 0 = y at *
    generalize (18446744073709551616 : Int) ^ i.toNat = s at *
    have : e = c' * 18446744073709551616 + x - y - c := by omega
    subst this
    grind
  · intro j hj
    simp only at hj ⊢
    rw [getD_set_ne _ _ _ _ (by omega)]
    exact h5 j (by omega)

theorem w52 (A : Ar) (hA : A = stdAr) (a b : LI) (ha : E4 a) (hb : E4 b) : FCall Try.prog 52 [.arr .u64 4 a, .arr .u64 4 b] (.tup [.arr .u64 4 (mnE a b), .bool (lsB a b)]) := by
  have k := ok_of (l := []) hA trivial
  refine FCall.of_body k (fn := Try.f52) rfl rfl rfl rfl (fun _ => ?_)
  refine AWP.seq (AWP.go k 100 [] ?_)
  conv => { arg 1; cbv }
  refine ⟨obs_nil, ?_⟩
  dsimp only [sthen]
  refine AWP.seq (AWP.go k 100 [] ?_)
  conv => { arg 1; cbv }
  refine ⟨obs_nil, ?_⟩
  dsimp only [sthen]
  refine AWP.seq (AWP.go k 100 [] ?_)
  conv => { arg 1; cbv }
  refine ⟨obs_nil, ?_⟩
  dsimp only [sthen]
  refine AWP.seq (AWP.seq (AWP.go k 100 [] ?_))
  conv => { arg 1; cbv }
  refine ⟨obs_nil, ?_⟩
  dsimp only [sthen]
  refine AWP.block ?_
  refine AWP.loopP (lsS a b (A.zeros 4)) (lsJ a b) (fun x => (4 - x.1).toNat) (0, [0, 0, 0, 0], 0) ?_ ?_ ?_
  · refine ⟨?_, ?_, rfl⟩
    · repeat' (first | exact .nil | exact .any _ | exact .same _ | exact .lit _ _ | refine .cons ?_ ?_)
    · repeat' (first | exact .nil _ | exact .same _ | refine .cons ?_ ?_)
  · refine ⟨by simp only; omega, ⟨rfl, rgL_zeros .u64 4⟩, by simp only; omega, by simp [val], ?_⟩
    intro j _
    match j with
    | 0 | 1 | 2 | 3 | _ + 4 => rfl
  · rintro ⟨i, d, c⟩ hJ
    have hi0 : 0 ≤ i ∧ i ≤ 4 := hJ.1
    have hc0 : 0 ≤ c ∧ c ≤ 1 := hJ.2.2.1
    by_cases hlt : i < 4
    · have e1 : IntKind.wrap .i64 (i + 1) = i + 1 := wrap_i64' _ (by omega)
      rcases Int.lt_trichotomy (a.getD i.toNat 0) (b.getD i.toNat 0) with hxy | hxy | hxy
      · refine AWP.go k 100 [true, true, true, true, true, true, true, true, true, true, true, true, true, true] ?_
        conv => { arg 1; cbv }
        refine ⟨?_, ?_⟩
        · subst hA
          simp only [obs_nil_iff, obs_cons_iff, s_lss, s_leq, s_eql, s_ofNat, nc4, nc0, s_rd, decide_eq_true_eq, and_true, true_and, hxy, hlt, hi0]
        · apply handed.mk (_, _, _)
          · refine ⟨?_, ?_, rfl⟩
            · repeat' (first | exact .nil | exact .any _ | exact .same _ | exact .lit _ _ | refine .cons ?_ ?_)
            · repeat' (first | exact .nil _ | exact .same _ | refine .cons ?_ ?_)
          · subst hA
            have := ls_step ha hb hlt hJ 1 (.inl ⟨hxy, rfl⟩)
            simpa only [s_add, s_sub, s_ofNat, nc0, nc1, s_rd, s_set, e1, wrap_u64'] using this
          · subst hA
            simp only [s_add, s_ofNat, nc1, e1]
            omega
      · by_cases hc : c = 1
        · refine AWP.go k 100 [true, false, false, false, false, false, false, false, false, true, true, false, true, false, true] ?_
          conv => { arg 1; cbv }
          refine ⟨?_, ?_⟩
          · subst hA
            have hn : ¬ a.getD i.toNat 0 < b.getD i.toNat 0 := by omega
            simp [obs_nil_iff, obs_cons_iff, s_lss, s_leq, s_eql, s_ofNat, s_rd, ← List.getD_eq_getElem?_getD, hxy, hc, hn, hlt, hi0]
          · apply handed.mk (_, _, _)
            · refine ⟨?_, ?_, rfl⟩
              · repeat' (first | exact .nil | exact .any _ | exact .same _ | exact .lit _ _ | refine .cons ?_ ?_)
              · repeat' (first | exact .nil _ | exact .same _ | refine .cons ?_ ?_)
            · subst hA
              have := ls_step ha hb hlt hJ 1 (.inr (.inl ⟨hxy, hc.symm⟩))
              simpa only [s_add, s_sub, s_ofNat, nc0, nc1, s_rd, s_set, e1, wrap_u64'] using this
            · subst hA
              simp only [s_add, s_ofNat, nc1, e1]
              omega
        · refine AWP.go k 100 [true, false, false, false, false, false, false, false, false, true, true, false, true, false, false] ?_
          conv => { arg 1; cbv }
          refine ⟨?_, ?_⟩
          · subst hA
            have hn : ¬ a.getD i.toNat 0 < b.getD i.toNat 0 := by omega
            simp [obs_nil_iff, obs_cons_iff, s_lss, s_leq, s_eql, s_ofNat, s_rd, ← List.getD_eq_getElem?_getD, hxy, hc, hn, hlt, hi0]
          · apply handed.mk (_, _, _)
            · refine ⟨?_, ?_, rfl⟩
              · repeat' (first | exact .nil | exact .any _ | exact .same _ | exact .lit _ _ | refine .cons ?_ ?_)
              · repeat' (first | exact .nil _ | exact .same _ | refine .cons ?_ ?_)
            · subst hA
              have := ls_step ha hb hlt hJ 0 (.inr (.inl ⟨hxy, by omega⟩))
              simpa only [s_add, s_sub, s_ofNat, nc0, nc1, s_rd, s_set, e1, wrap_u64'] using this
            · subst hA
              simp only [s_add, s_ofNat, nc1, e1]
              omega
      · refine AWP.go k 100 [true, false, false, false, false, false, false, false, false, false, false, false, false, false, false, false, false] ?_
        conv => { arg 1; cbv }
        refine ⟨?_, ?_⟩
        · subst hA
          have hn : ¬ a.getD i.toNat 0 < b.getD i.toNat 0 := by omega
          simp [obs_nil_iff, obs_cons_iff, s_lss, s_leq, s_eql, s_ofNat, s_rd, ← List.getD_eq_getElem?_getD, (by omega : ¬ a.getD i.toNat 0 = b.getD i.toNat 0), hn, hlt, hi0]
          omega
        · apply handed.mk (_, _, _)
          · refine ⟨?_, ?_, rfl⟩
            · repeat' (first | exact .nil | exact .any _ | exact .same _ | exact .lit _ _ | refine .cons ?_ ?_)
            · repeat' (first | exact .nil _ | exact .same _ | refine .cons ?_ ?_)
          · subst hA
            have := ls_step ha hb hlt hJ 0 (.inr (.inr ⟨hxy, rfl⟩))
            simpa only [s_add, s_sub, s_ofNat, nc0, nc1, s_rd, s_set, e1, wrap_u64'] using this
          · subst hA
            simp only [s_add, s_ofNat, nc1, e1]
            omega
    · refine AWP.go k 100 [false] ?_
      conv => { arg 1; cbv }
      refine ⟨?_, ?_⟩
      · subst hA
        simp [obs_nil_iff, obs_cons_iff, s_lss, s_ofNat, hlt]
      dsimp only [handed, sblock, sthen]
      rw [if_pos rfl]
      refine AWP.go k 100 [] ?_
      conv => { arg 1; cbv }
      refine ⟨obs_nil, ?_⟩
      refine ⟨fun id => by simp, ?_⟩
      conv => { lhs; cbv }
      subst hA
      have hi4 : i = 4 := by omega
      subst hi4
      obtain ⟨_, h2, _, h4, _⟩ := hJ
      simp only at h2 h4
      have t4 : ∀ x : LI, E4 x → x.take (4 : Int).toNat = x := fun x hx => List.take_of_length_le (by rw [hx.1]; exact Nat.le_refl _)
      rw [t4 a ha, t4 b hb] at h4
      obtain ⟨g1, g2, g3⟩ := enc4_val h2.1 h2.2
      obtain ⟨_, a2, a3⟩ := enc4_val ha.1 ha.2
      obtain ⟨_, b2, b3⟩ := enc4_val hb.1 hb.2
      have hpow : (18446744073709551616 : Int) ^ (4 : Int).toNat = 115792089237316195423570985008687907853269984665640564039457584007913129639936 := by decide
      rw [hpow] at h4
      have hE : mnE a b = d := by
        unfold mnE
        rw [← g1]
        congr 1
        rcases (by omega : c = 0 ∨ c = 1) with rfl | rfl <;> omega
      have hB : lsB a b = stdAr.cmp .eql c (stdAr.ofNat 1) := by
        unfold lsB
        rcases (by omega : c = 0 ∨ c = 1) with rfl | rfl
        · rw [decide_eq_false (by omega)]; rfl
        · rw [decide_eq_true (by omega)]; rfl
      rw [hE, hB]
theorem h52 : Holds Try.prog 52 (gEE_EB mnE lsB) := holds_EE_EB fun a b ha hb => w52 stdAr rfl a b ha hb
end Go.Proofs.SX

namespace Go.Proofs.SX
open Go Go.Proofs
set_option maxRecDepth 100000
set_option linter.unusedVariables false
set_option linter.unusedSimpArgs false

def moB (a b : LI) : Bool := decide (115792089237316195423570985008687907853269984665640564039457584007913129639936 ≤ val a + val b)
def moJ (a b : LI) (x : Int × LI × Int) : Prop :=
  (0 ≤ x.1 ∧ x.1 ≤ 4) ∧ E4 x.2.1 ∧ (0 ≤ x.2.2 ∧ x.2.2 ≤ 1) ∧ val (a.take x.1.toNat) + val (b.take x.1.toNat) = val x.2.1 + x.2.2 * 18446744073709551616 ^ x.1.toNat ∧ ∀ j, x.1.toNat ≤ j → x.2.1.getD j 0 = 0
theorem mo_step {a b : LI} {i : Int} {d : LI} {c : Int} (ha : E4 a) (hb : E4 b) (hi : i < 4) (h : moJ a b (i, d, c)) :
    ∀ x y c' : Int, x = (a.getD i.toNat 0 + b.getD i.toNat 0) % 18446744073709551616 → y = (x + c) % 18446744073709551616 → (x < a.getD i.toNat 0 ∧ c' = 1 ∨ ¬ x < a.getD i.toNat 0 ∧ y < x ∧ c' = 1 ∨ ¬ x < a.getD i.toNat 0 ∧ ¬ y < x ∧ c' = 0) →
    moJ a b (i + 1, d.set i.toNat y, c') := by
  intro x y c' hx hy hc'
  obtain ⟨h1, h2, h3, h4, h5⟩ := h
  simp only at h1 h2 h3 h4 h5
  have ra := getD_rg ha.2 i.toNat
  have rb := getD_rg hb.2 i.toNat
  have e1 : (i + 1).toNat = i.toNat + 1 := by omega
  have key : y + c' * 18446744073709551616 = a.getD i.toNat 0 + b.getD i.toNat 0 + c := by
    rcases hc' with ⟨_, rfl⟩ | ⟨_, _, rfl⟩ | ⟨_, _, rfl⟩ <;> omega
  refine ⟨by simp only; omega, ⟨by simp [h2.1], rgL_set h2.2 _ (rg64.2 (by omega))⟩, by simp only; omega, ?_, ?_⟩
  · simp only
    rw [e1, val_take_succ _ _ (by rw [ha.1]; omega), val_take_succ _ _ (by rw [hb.1]; omega), val_set _ _ _ (by rw [h2.1]; omega), h5 _ (Nat.le_refl _), Int.pow_succ]
    generalize a.getD i.toNat 0 = u at *
    generalize b.getD i.toNat 0 = v at *
    generalize (18446744073709551616 : Int) ^ i.toNat = s at *
    have : y = u + v + c - c' * 18446744073709551616 := by omega
    generalize hy2 : y = y2 at *
    subst this
    grind
  · intro j hj
    simp only at hj ⊢
    rw [getD_set_ne _ _ _ _ (by omega)]
    exact h5 j (by omega)
def moS (a b z : LI) (x : Int × LI × Int) : St := ⟨mkF [(2, .ptr 0 0), (3, .ptr 1 0), (4, .ptr 2 0), (6, .ptr 3 0), (7, .int .u64 x.2.2), (8, .int .i64 x.1)] 42 0,
  [.cells [.arr .u64 4 a], .cells [.arr .u64 4 b], .cells [.arr .u64 4 z], .cells [.arr .u64 4 x.2.1]]⟩

theorem w55 (A : Ar) (hA : A = stdAr) (a b : LI) (ha : E4 a) (hb : E4 b) : FCall Try.prog 55 [.arr .u64 4 a, .arr .u64 4 b] (.tup [.arr .u64 4 (plE a b), .bool (moB a b)]) := by
  have k := ok_of (l := []) hA trivial
  refine FCall.of_body k (fn := Try.f55) rfl rfl rfl rfl (fun _ => ?_)
  refine AWP.seq (AWP.go k 100 [] ?_)
  conv => { arg 1; cbv }
  refine ⟨obs_nil, ?_⟩
  dsimp only [sthen]
  refine AWP.seq (AWP.go k 100 [] ?_)
  conv => { arg 1; cbv }
  refine ⟨obs_nil, ?_⟩
  dsimp only [sthen]
  refine AWP.seq (AWP.go k 100 [] ?_)
  conv => { arg 1; cbv }
  refine ⟨obs_nil, ?_⟩
  dsimp only [sthen]
  refine AWP.seq (AWP.seq (AWP.go k 100 [] ?_))
  conv => { arg 1; cbv }
  refine ⟨obs_nil, ?_⟩
  dsimp only [sthen]
  refine AWP.block ?_
  refine AWP.loopP (moS a b (A.zeros 4)) (moJ a b) (fun x => (4 - x.1).toNat) (0, [0, 0, 0, 0], 0) ?_ ?_ ?_
  · refine ⟨?_, ?_, rfl⟩
    · repeat' (first | exact .nil | exact .any _ | exact .same _ | exact .lit _ _ | refine .cons ?_ ?_)
    · repeat' (first | exact .nil _ | exact .same _ | refine .cons ?_ ?_)
  · refine ⟨by simp only; omega, ⟨rfl, rgL_zeros .u64 4⟩, by simp only; omega, by simp [val], ?_⟩
    intro j _
    match j with
    | 0 | 1 | 2 | 3 | _ + 4 => rfl
  · rintro ⟨i, d, c⟩ hJ
    have hi0 : 0 ≤ i ∧ i ≤ 4 := hJ.1
    have hc0 : 0 ≤ c ∧ c ≤ 1 := hJ.2.2.1
    by_cases hlt : i < 4
    · have e1 : IntKind.wrap .i64 (i + 1) = i + 1 := wrap_i64' _ (by omega)
      by_cases h1 : (a.getD i.toNat 0 + b.getD i.toNat 0) % 18446744073709551616 < a.getD i.toNat 0
      · refine AWP.go k 100 [true, true, true, true, true, true, true, true] ?_
        conv => { arg 1; cbv }
        refine ⟨?_, ?_⟩
        · subst hA
          simp only [obs_nil_iff, obs_cons_iff, s_lss, s_leq, s_eql, s_ofNat, s_add, wrap_u64', nc0, nc1, nc4, s_rd, decide_eq_true_eq, decide_eq_false_iff_not, and_true, true_and, h1, hlt, hi0, not_false_eq_true]
        · apply handed.mk (_, _, _)
          · refine ⟨?_, ?_, rfl⟩
            · repeat' (first | exact .nil | exact .any _ | exact .same _ | exact .lit _ _ | refine .cons ?_ ?_)
            · repeat' (first | exact .nil _ | exact .same _ | refine .cons ?_ ?_)
          · subst hA
            have := mo_step ha hb hlt hJ _ _ 1 rfl rfl (.inl ⟨h1, rfl⟩)
            simpa only [s_add, s_sub, s_ofNat, nc0, nc1, s_rd, s_set, e1, wrap_u64'] using this
          · subst hA
            simp only [s_add, s_ofNat, nc1, e1]
            omega
      · by_cases h2 : ((a.getD i.toNat 0 + b.getD i.toNat 0) % 18446744073709551616 + c) % 18446744073709551616 < (a.getD i.toNat 0 + b.getD i.toNat 0) % 18446744073709551616
        · refine AWP.go k 100 [true, false, false, false, false, true] ?_
          conv => { arg 1; cbv }
          refine ⟨?_, ?_⟩
          · subst hA
            simp only [obs_nil_iff, obs_cons_iff, s_lss, s_leq, s_eql, s_ofNat, s_add, wrap_u64', nc0, nc1, nc4, s_rd, decide_eq_true_eq, decide_eq_false_iff_not, and_true, true_and, h1, h2, hlt, hi0, not_false_eq_true]
          · apply handed.mk (_, _, _)
            · refine ⟨?_, ?_, rfl⟩
              · repeat' (first | exact .nil | exact .any _ | exact .same _ | exact .lit _ _ | refine .cons ?_ ?_)
              · repeat' (first | exact .nil _ | exact .same _ | refine .cons ?_ ?_)
            · subst hA
              have := mo_step ha hb hlt hJ _ _ 1 rfl rfl (.inr (.inl ⟨h1, h2, rfl⟩))
              simpa only [s_add, s_sub, s_ofNat, nc0, nc1, s_rd, s_set, e1, wrap_u64'] using this
            · subst hA
              simp only [s_add, s_ofNat, nc1, e1]
              omega
        · refine AWP.go k 100 [true, false, false, false, false, false] ?_
          conv => { arg 1; cbv }
          refine ⟨?_, ?_⟩
          · subst hA
            simp only [obs_nil_iff, obs_cons_iff, s_lss, s_leq, s_eql, s_ofNat, s_add, wrap_u64', nc0, nc1, nc4, s_rd, decide_eq_true_eq, decide_eq_false_iff_not, and_true, true_and, h1, h2, hlt, hi0, not_false_eq_true]
          · apply handed.mk (_, _, _)
            · refine ⟨?_, ?_, rfl⟩
              · repeat' (first | exact .nil | exact .any _ | exact .same _ | exact .lit _ _ | refine .cons ?_ ?_)
              · repeat' (first | exact .nil _ | exact .same _ | refine .cons ?_ ?_)
            · subst hA
              have := mo_step ha hb hlt hJ _ _ 0 rfl rfl (.inr (.inr ⟨h1, h2, rfl⟩))
              simpa only [s_add, s_sub, s_ofNat, nc0, nc1, s_rd, s_set, e1, wrap_u64'] using this
            · subst hA
              simp only [s_add, s_ofNat, nc1, e1]
              omega
    · refine AWP.go k 100 [false] ?_
      conv => { arg 1; cbv }
      refine ⟨?_, ?_⟩
      · subst hA
        simp [obs_nil_iff, obs_cons_iff, s_lss, s_ofNat, hlt]
      dsimp only [handed, sblock, sthen]
      rw [if_pos rfl]
      refine AWP.go k 100 [] ?_
      conv => { arg 1; cbv }
      refine ⟨obs_nil, ?_⟩
      refine ⟨fun id => by simp, ?_⟩
      conv => { lhs; cbv }
      subst hA
      have hi4 : i = 4 := by omega
      subst hi4
      obtain ⟨_, h2, _, h4, _⟩ := hJ
      simp only at h2 h4
      have t4 : ∀ x : LI, E4 x → x.take (4 : Int).toNat = x := fun x hx => List.take_of_length_le (by rw [hx.1]; exact Nat.le_refl _)
      rw [t4 a ha, t4 b hb] at h4
      obtain ⟨g1, g2, g3⟩ := enc4_val h2.1 h2.2
      obtain ⟨_, a2, a3⟩ := enc4_val ha.1 ha.2
      obtain ⟨_, b2, b3⟩ := enc4_val hb.1 hb.2
      have hpow : (18446744073709551616 : Int) ^ (4 : Int).toNat = 115792089237316195423570985008687907853269984665640564039457584007913129639936 := by decide
      rw [hpow] at h4
      have hE : plE a b = d := by
        unfold plE
        rw [← g1]
        congr 1
        rcases (by omega : c = 0 ∨ c = 1) with rfl | rfl <;> omega
      have hB : moB a b = stdAr.cmp .eql c (stdAr.ofNat 1) := by
        unfold moB
        rcases (by omega : c = 0 ∨ c = 1) with rfl | rfl
        · rw [decide_eq_false (by omega)]; rfl
        · rw [decide_eq_true (by omega)]; rfl
      rw [hE, hB]
theorem h55 : Holds Try.prog 55 (gEE_EB plE moB) := holds_EE_EB fun a b ha hb => w55 stdAr rfl a b ha hb
end Go.Proofs.SX

namespace Go.Proofs.SX
open Go Go.Proofs
set_option maxRecDepth 100000
set_option linter.unusedVariables false
set_option linter.unusedSimpArgs false

def beE (a m : LI) : LI := enc4 (val a % val m)
def poB (m : LI) : Bool := decide (0 < val m)
def gBe (f : LI → LI → LI) (p : LI → Bool) : List AV → Option (AV × Ob) := fun l => match l with | [.arr .u64 4 a, .arr .u64 4 b] => some (.arr .u64 4 (f a b), [(p b, true)]) | _ => none

theorem enc4_rg (n : Int) : RgL .u64 (enc4 n) := by
  intro x hx
  simp only [enc4, List.mem_cons, List.not_mem_nil, or_false] at hx
  rw [rg64]
  rcases hx with rfl | rfl | rfl | rfl <;> omega
theorem mnE_rg (a b : LI) : RgL .u64 (mnE a b) := enc4_rg _
def beJ (a m : LI) (x : LI) : Prop := E4 x ∧ val x % val m = val a % val m
def beS (m z : LI) (x : LI) : St := ⟨mkF [(2, .ptr 0 0), (3, .ptr 1 0), (4, .ptr 2 0)] 16 0, [.cells [.arr .u64 4 x], .cells [.arr .u64 4 m], .cells [.arr .u64 4 z]]⟩
theorem w62 (A : Ar) (hA : A = stdAr) (mn : LI → LI → LI) (ls : LI → LI → Bool) (hmn : mn = mnE) (hls : ls = lsB) (hG : allHold Try.prog [(52, gEE_EB mn ls)]) (a m : LI) (ha : E4 a) (hm : E4 m) (hp : 0 < val m) :
    FCall Try.prog 62 [.arr .u64 4 a, .arr .u64 4 m] (.arr .u64 4 (beE a m)) := by
  have k := ok_of hA hG
  refine FCall.of_body k (fn := Try.f62) rfl rfl rfl rfl (fun _ => ?_)
  refine AWP.seq (AWP.go k 100 [] ?_)
  conv => { arg 1; cbv }
  refine ⟨obs_nil, ?_⟩
  dsimp only [sthen]
  refine AWP.block ?_
  refine AWP.loopP (beS m (A.zeros 4)) (beJ a m) (fun x => (val x).toNat) a ?_ ?_ ?_
  · refine ⟨?_, ?_, rfl⟩
    · repeat' (first | exact .nil | exact .any _ | exact .same _ | exact .lit _ _ | refine .cons ?_ ?_)
    · repeat' (first | exact .nil _ | exact .same _ | refine .cons ?_ ?_)
  · exact ⟨ha, rfl⟩
  · intro x hJ
    obtain ⟨g1, g2, g3⟩ := enc4_val hJ.1.1 hJ.1.2
    refine AWP.split (ls x m) (fun hlt => ?_) (fun hlt => ?_)
    · refine AWP.go k 100 [true] ?_
      conv => { arg 1; cbv }
      refine ⟨obs_cons hlt obs_nil, ?_⟩
      refine ⟨fun id => by simp, ?_⟩
      conv => { lhs; cbv }
      subst hls
      have : val x < val m := by simpa [lsB] using hlt
      have e : beE a m = x := by
        unfold beE
        rw [← hJ.2, Int.emod_eq_of_lt g2 this, g1]
      rw [e]
    · refine AWP.go k 100 [false] ?_
      conv => { arg 1; cbv }
      refine ⟨obs_cons hlt obs_nil, ?_⟩
      subst hls hmn
      have h2 : ¬ val x < val m := by simpa [lsB] using hlt
      have e : val (mnE x m) = val x - val m := by
        unfold mnE
        rw [val_enc4 (by omega)]
        omega
      refine handed.mk (mnE x m) ⟨?_, ?_, rfl⟩ ⟨by exact ⟨rfl, (mnE_rg x m)⟩, ?_⟩ ?_
      · repeat' (first | exact .nil | exact .any _ | exact .same _ | exact .lit _ _ | refine .cons ?_ ?_)
      · repeat' (first | exact .nil _ | exact .same _ | refine .cons ?_ ?_)
      · rw [e, Int.sub_emod_right, hJ.2]
      · show (val (mnE x m)).toNat < (val x).toNat
        rw [e]; omega
theorem h62 : Holds Try.prog 62 (gBe beE poB) := by
  intro args r ob hg ho
  unfold gBe at hg
  split at hg
  · rename_i a m
    simp only [Option.some.injEq, Prod.mk.injEq] at hg; obtain ⟨rfl, rfl⟩ := hg
    have := ho _ (List.mem_singleton.2 rfl)
    exact two_of fun ha hm => w62 stdAr rfl mnE lsB rfl rfl ⟨h52, trivial⟩ a m ha hm (by simpa [poB] using this)
  · simp at hg

theorem w56 (A : Ar) (hA : A = stdAr) (be : LI → LI → LI) (po : LI → Bool) (hpo : po = poB) (hG : allHold Try.prog [(53, g0 (.arr .u64 4 prE)), (62, gBe be po)]) (a : LI) :
    FCall Try.prog 56 [.arr .u64 4 a] (.arr .u64 4 (be a prE)) := by
  refine FCall.exec (ok_of hA hG) (fn := Try.f56) 100 [] rfl rfl rfl (fun h => ?_)
  conv => { arg 1; cbv }
  subst hpo
  have : poB prE = true := by unfold poB; rw [val_prE]; decide
  exact ⟨obs_cons this obs_nil, rfl⟩
theorem h56 : Holds Try.prog 56 (gE_E rdE) := holds_E_E fun a _ => by
  have h := w56 stdAr rfl beE poB rfl ⟨h53, h62, trivial⟩ a
  have e : beE a prE = rdE a := by unfold beE rdE; rw [val_prE]
  rw [← e]; exact h

theorem w30 (A : Ar) (hA : A = stdAr) (rd : LI → LI) (pl : LI → LI → LI) (mo : LI → LI → Bool) (hG : allHold Try.prog [(56, gE_E rd), (55, gEE_EB pl mo)]) (a b : LI) :
    FCall Try.prog 30 [.arr .u64 4 a, .arr .u64 4 b] (.arr .u64 4 (rd (pl (rd a) (rd b)))) := by
  refine FCall.exec (ok_of hA hG) (fn := Try.f30) 100 [] rfl rfl rfl (fun h => ?_)
  conv => { arg 1; cbv }
  exact ⟨obs_nil, rfl⟩
theorem adE_eq {a b : LI} (ha : E4 a) (hb : E4 b) : adE a b = rdE (plE (rdE a) (rdE b)) := by
  obtain ⟨h1, h2⟩ := val_rdE ha
  obtain ⟨h3, h4⟩ := val_rdE hb
  show _ = enc4 (val (plE (rdE a) (rdE b)) % pr)
  unfold plE
  rw [h1, h3]
  unfold adE pr
  rw [val_enc4 (by omega)]
  congr 1
  omega
theorem h30 : Holds Try.prog 30 (gEE_E adE) := holds_EE_E fun a b ha hb => by
  rw [adE_eq ha hb]; exact w30 stdAr rfl rdE plE moB ⟨h56, h55, trivial⟩ a b

theorem suE_eq {a b : LI} (ha : E4 a) (hb : E4 b) : (lsB (rdE a) (rdE b) = false → mnE (rdE a) (rdE b) = suE a b) ∧ (lsB (rdE a) (rdE b) = true → plE (mnE (rdE a) (rdE b)) prE = suE a b) := by
  obtain ⟨h1, h2⟩ := val_rdE ha
  obtain ⟨h3, h4⟩ := val_rdE hb
  unfold lsB mnE plE suE
  rw [h1, h3, val_prE]
  unfold pr
  rw [val_enc4 (by omega)]
  simp only [decide_eq_true_eq, decide_eq_false_iff_not]
  constructor
  · intro h
    congr 1
    omega
  · intro h
    congr 1
    omega
theorem w29 (A : Ar) (hA : A = stdAr) (rd : LI → LI) (pl mn : LI → LI → LI) (mo ls : LI → LI → Bool) (hrd : rd = rdE) (hpl : pl = plE) (hmn : mn = mnE) (hls : ls = lsB) (hG : allHold Try.prog [(56, gE_E rd), (55, gEE_EB pl mo), (52, gEE_EB mn ls), (53, g0 (.arr .u64 4 prE))]) (a b : LI) (ha : E4 a) (hb : E4 b) :
    FCall Try.prog 29 [.arr .u64 4 a, .arr .u64 4 b] (.arr .u64 4 (suE a b)) := by
  have e := suE_eq ha hb
  refine FCall.split (ls (rd a) (rd b)) (fun hc => ?_) (fun hc => ?_)
  · refine FCall.exec (ok_of hA hG) (fn := Try.f29) 100 [true] rfl rfl rfl (fun h => ?_)
    conv => { arg 1; cbv }
    refine ⟨obs_cons hc obs_nil, ?_⟩
    subst hA hrd hpl hmn hls
    exact congrArg _ (e.2 hc)
  · refine FCall.exec (ok_of hA hG) (fn := Try.f29) 100 [false] rfl rfl rfl (fun h => ?_)
    conv => { arg 1; cbv }
    refine ⟨obs_cons hc obs_nil, ?_⟩
    subst hA hrd hpl hmn hls
    exact congrArg _ (e.1 hc)
theorem h29 : Holds Try.prog 29 (gEE_E suE) := holds_EE_E fun a b ha hb => w29 stdAr rfl rdE plE mnE moB lsB rfl rfl rfl rfl ⟨h56, h55, h52, h53, trivial⟩ a b ha hb
end Go.Proofs.SX

namespace Go.Proofs.SX
open Go Go.Proofs
set_option maxRecDepth 100000
set_option linter.unusedVariables false
set_option linter.unusedSimpArgs false

def v32 : LI → Int
  | [] => 0
  | x :: l => x + 4294967296 * v32 l
def D32 (l : LI) : Prop := ∀ x ∈ l, 0 ≤ x ∧ x < 4294967296
theorem v32_set : ∀ (l : LI) (n : Nat) (v : Int), n < l.length → v32 (l.set n v) = v32 l + (v - l.getD n 0) * 4294967296 ^ n
  | [], _, _, h => by simp at h
  | x :: l, 0, v, _ => by simp [v32]; omega
  | x :: l, n + 1, v, h => by
    have ih := v32_set l n v (by simpa using h)
    simp only [List.set_cons_succ, v32, ih, List.getD_cons_succ, Int.pow_succ]
    grind
theorem v32_take_succ : ∀ (l : LI) (n : Nat), n < l.length → v32 (l.take (n + 1)) = v32 (l.take n) + l.getD n 0 * 4294967296 ^ n
  | [], _, h => by simp at h
  | x :: l, 0, _ => by simp [v32]
  | x :: l, n + 1, h => by
    have ih := v32_take_succ l n (by simpa using h)
    simp only [List.take_succ_cons, v32, ih, List.getD_cons_succ, Int.pow_succ]
    grind
theorem D32.get {xs : LI} (h : D32 xs) (i : Nat) : 0 ≤ xs.getD i 0 ∧ xs.getD i 0 < 4294967296 := by
  rw [List.getD_eq_getElem?_getD]
  cases hx : xs[i]? with
  | none => simp
  | some y => simpa using h y (List.mem_of_getElem? hx)
theorem D32.set {xs : LI} (h : D32 xs) (i : Nat) {v : Int} (hv : 0 ≤ v ∧ v < 4294967296) : D32 (xs.set i v) := by
  intro x hx
  rcases List.mem_or_eq_of_mem_set hx with h1 | h1
  · exact h x h1
  · rw [h1]; exact hv
theorem D32.rg {xs : LI} (h : D32 xs) : RgL .u64 xs := fun x hx => rg64.2 (by have := h x hx; omega)

/-- The digits of words. -/
def haE (a : LI) : LI := (List.range 8).map fun i => a.getD (i / 2) 0 / 2 ^ (32 * (i % 2)) % 4294967296
theorem haE_v {a : LI} (ha : E4 a) : v32 (haE a) = val a ∧ D32 (haE a) ∧ (haE a).length = 8 := by
  obtain ⟨a0, a1, a2, a3, rfl, h0, h1, h2, h3⟩ := words4 ha.1 ha.2
  refine ⟨?_, ?_, rfl⟩
  · have e : haE [a0, a1, a2, a3] = [a0 / 1 % 4294967296, a0 / 4294967296 % 4294967296, a1 / 1 % 4294967296, a1 / 4294967296 % 4294967296, a2 / 1 % 4294967296, a2 / 4294967296 % 4294967296, a3 / 1 % 4294967296, a3 / 4294967296 % 4294967296] := rfl
    rw [e, val4]
    simp only [v32]
    omega
  · intro x hx
    simp only [haE, List.mem_map] at hx
    obtain ⟨i, _, rfl⟩ := hx
    exact ⟨Int.emod_nonneg _ (by omega), Int.emod_lt_of_pos _ (by omega)⟩
theorem w61 (A : Ar) (hA : A = stdAr) (a : LI) (ha : E4 a) : FCall Try.prog 61 [.arr .u64 4 a] (.arr .u64 8 (haE a)) := by
  obtain ⟨a0, a1, a2, a3, rfl, h0, h1, h2, h3⟩ := words4 ha.1 ha.2
  refine FCall.exec (ok_of (l := []) hA trivial) (fn := Try.f61) 100 [] rfl rfl rfl (fun h => ?_)
  conv => { arg 1; cbv }
  subst hA
  refine ⟨?_, ?_⟩
  · simp only [obs_nil_iff, obs_cons_iff]
    simp [s_eql, s_leq, s_ofNat]
  · have m1 : ∀ {z : Int}, 0 ≤ z ∧ z < 18446744073709551616 → stdAr.bin .and .u64 z ((4294967295 : Nat) : Int) = z % 4294967296 := fun hz => s_and_low 32 (by omega) hz (by decide)
    have m2 : ∀ {z : Int}, 0 ≤ z ∧ z < 18446744073709551616 → stdAr.bin .shr .u64 z ((32 : Nat) : Int) = z / 4294967296 := fun hz => s_shr 32 (by omega) hz rfl
    have m3 : ∀ {z : Int}, 0 ≤ z ∧ z < 18446744073709551616 → stdAr.bin .shr .u64 z ((0 : Nat) : Int) = z / 1 := fun hz => s_shr 0 (by omega) hz rfl
    have r : ∀ {z : Int}, 0 ≤ z ∧ z < 18446744073709551616 → (0 ≤ z / 1 ∧ z / 1 < 18446744073709551616) ∧ (0 ≤ z / 4294967296 ∧ z / 4294967296 < 18446744073709551616) := fun hz => by omega
    have r0 : stdAr.rd [a0, a1, a2, a3] ((0 : Nat) : Int) = a0 := rfl
    have r1 : stdAr.rd [a0, a1, a2, a3] ((1 : Nat) : Int) = a1 := rfl
    have r2 : stdAr.rd [a0, a1, a2, a3] ((2 : Nat) : Int) = a2 := rfl
    have r3 : stdAr.rd [a0, a1, a2, a3] ((3 : Nat) : Int) = a3 := rfl
    simp only [s_ofNat, r0, r1, r2, r3, m2 h0, m3 h0, m2 h1, m3 h1, m2 h2, m3 h2, m2 h3, m3 h3, m1 (r h0).1, m1 (r h0).2, m1 (r h1).1, m1 (r h1).2, m1 (r h2).1, m1 (r h2).2, m1 (r h3).1, m1 (r h3).2]
    rfl
theorem h61 : Holds Try.prog 61 (gE_8 haE) := holds_E_8 fun a ha => w61 stdAr rfl a ha

/-- The outer loop. -/
def drJ (x y : LI) (s : Int × LI) : Prop :=
  (0 ≤ s.1 ∧ s.1 ≤ 8) ∧ (s.2.length = 16 ∧ D32 s.2) ∧ v32 s.2 = v32 (x.take s.1.toNat) * v32 y ∧ ∀ j, s.1.toNat + 8 ≤ j → s.2.getD j 0 = 0
def drS (a b x y z : LI) (s : Int × LI) : St := ⟨mkF [(4, .ptr 2 0), (5, .ptr 3 0), (6, .ptr 4 0), (7, .ptr 5 0), (8, .int .i64 s.1)] 52 0,
  [.cells [.arr .u64 4 a], .cells [.arr .u64 4 b], .cells [.arr .u64 16 z], .cells [.arr .u64 8 x], .cells [.arr .u64 8 y], .cells [.arr .u64 16 s.2]]⟩
def diJ (x y : LI) (i : Int) (p : LI) (t : Int × LI × Int) : Prop :=
  (0 ≤ t.1 ∧ t.1 ≤ 8) ∧ (t.2.1.length = 16 ∧ D32 t.2.1) ∧ (0 ≤ t.2.2 ∧ t.2.2 < 4294967296) ∧
  v32 t.2.1 + t.2.2 * 4294967296 ^ (i.toNat + t.1.toNat) = v32 p + x.getD i.toNat 0 * v32 (y.take t.1.toNat) * 4294967296 ^ i.toNat ∧ ∀ j, i.toNat + 8 ≤ j → t.2.1.getD j 0 = 0
def diS (a b x y z : LI) (i : Int) (t : Int × LI × Int) : St := ⟨mkF [(4, .ptr 2 0), (5, .ptr 3 0), (6, .ptr 4 0), (7, .ptr 5 0), (8, .int .i64 i), (9, .int .u64 t.2.2), (10, .int .i64 t.1)] 52 0,
  [.cells [.arr .u64 4 a], .cells [.arr .u64 4 b], .cells [.arr .u64 16 z], .cells [.arr .u64 8 x], .cells [.arr .u64 8 y], .cells [.arr .u64 16 t.2.1]]⟩

theorem di_step {x y : LI} {i : Int} {p : LI} {k c : Int} {q : LI} (hx : x.length = 8 ∧ D32 x) (hy : y.length = 8 ∧ D32 y) (hi : 0 ≤ i ∧ i < 8) (hk : k < 8) (h : diJ x y i p (k, q, c)) :
    ∀ t : Int, t = c + q.getD (i + k).toNat 0 + x.getD i.toNat 0 * y.getD k.toNat 0 → (0 ≤ t ∧ t < 18446744073709551616) ∧ (0 ≤ x.getD i.toNat 0 * y.getD k.toNat 0 ∧ x.getD i.toNat 0 * y.getD k.toNat 0 ≤ 4294967295 * 4294967295) ∧ diJ x y i p (k + 1, q.set (i + k).toNat (t % 4294967296), t / 4294967296) := by
  intro t ht
  obtain ⟨h2, ⟨h3, h4⟩, h5, h6, h7⟩ := h
  simp only at h2 h3 h4 h5 h6 h7
  have rx := hx.2.get i.toNat
  have ry := hy.2.get k.toNat
  have rq := h4.get (i + k).toNat
  have hm := mul_bound (a := x.getD i.toNat 0) (b := y.getD k.toNat 0) (n := 4294967295) (m := 4294967295) (by omega) (by omega)
  have hik : (i + k).toNat = i.toNat + k.toNat := by omega
  have hk1 : (k + 1).toNat = k.toNat + 1 := by omega
  have ht2 : 0 ≤ t ∧ t < 18446744073709551616 := by omega
  refine ⟨ht2, hm, by simp only; omega, ⟨by simp [h3], h4.set _ (by omega)⟩, by simp only; omega, ?_, ?_⟩
  · simp only
    rw [hik] at ht
    rw [v32_set _ _ _ (by omega), hk1, v32_take_succ _ _ (by rw [hy.1]; omega), hik]
    have hd : t / 4294967296 * 4294967296 = t - t % 4294967296 := by omega
    generalize t / 4294967296 = d at *
    generalize t % 4294967296 = l at *
    generalize x.getD i.toNat 0 = u at *
    generalize y.getD k.toNat 0 = v at *
    generalize q.getD (i.toNat + k.toNat) 0 = w at *
    generalize v32 (List.take k.toNat y) = vv at *
    rw [← Nat.add_assoc, Int.pow_succ, Int.pow_add]
    rw [Int.pow_add] at h6
    generalize (4294967296 : Int) ^ i.toNat = s at *
    generalize (4294967296 : Int) ^ k.toNat = r at *
    grind
  · intro j hj
    simp only
    rw [getD_set_ne _ _ _ _ (by omega)]
    exact h7 j hj
theorem dr_step {x y : LI} {i : Int} {p : LI} {k c : Int} {q : LI} (hx : x.length = 8 ∧ D32 x) (hy : y.length = 8 ∧ D32 y) (hi : i < 8) (h : drJ x y (i, p)) (hj : diJ x y i p (k, q, c)) (hk : ¬ k < 8) : drJ x y (i + 1, q.set (i + 8).toNat c) := by
  obtain ⟨h1, _, h2, _⟩ := h
  obtain ⟨h3, ⟨h4, h5⟩, h6, h7, h8⟩ := hj
  simp only at *
  have hk4 : k = 8 := by omega
  subst hk4
  have hb4 : y.take 8 = y := List.take_of_length_le (by rw [hy.1]; exact Nat.le_refl _)
  have e4 : ((8 : Int)).toNat = 8 := rfl
  have hi4 : (i + 8).toNat = i.toNat + 8 := by omega
  have hi1 : (i + 1).toNat = i.toNat + 1 := by omega
  rw [e4, hb4] at h7
  refine ⟨by simp only; omega, ⟨by simp [h4], h5.set _ h6⟩, ?_, ?_⟩
  · simp only
    rw [v32_set _ _ _ (by omega), hi4, h8 _ (Nat.le_refl _), hi1, v32_take_succ _ _ (by rw [hx.1]; omega)]
    generalize x.getD i.toNat 0 = u at *
    generalize v32 (List.take i.toNat x) = v at *
    generalize (4294967296 : Int) ^ i.toNat = s at *
    grind
  · intro j hj
    simp only at hj ⊢
    rw [getD_set_ne _ _ _ _ (by omega)]
    exact h8 j (by omega)
end Go.Proofs.SX

namespace Go.Proofs.SX
open Go Go.Proofs
set_option maxRecDepth 100000
set_option linter.unusedVariables false
set_option linter.unusedSimpArgs false

/-- Digits of a number. -/
def encN : Nat → Int → LI
  | 0, _ => []
  | k + 1, n => n % 4294967296 :: encN k (n / 4294967296)
theorem encN_of : ∀ {d : LI}, D32 d → encN d.length (v32 d) = d
  | [], _ => rfl
  | x :: l, h => by
    have h1 := h x (by simp)
    have ih := encN_of (d := l) (fun y hy => h y (by simp [hy]))
    simp only [List.length_cons, encN, v32]
    rw [show (x + 4294967296 * v32 l) % 4294967296 = x by omega, show (x + 4294967296 * v32 l) / 4294967296 = v32 l by omega, ih]
def prD (a b : LI) : LI := encN 16 (val a * val b)
theorem w54 (A : Ar) (hA : A = stdAr) (hv : LI → LI) (hhv : hv = haE) (hG : allHold Try.prog [(61, gE_8 hv)]) (a b : LI) (ha : E4 a) (hb : E4 b) :
    FCall Try.prog 54 [.arr .u64 4 a, .arr .u64 4 b] (.arr .u64 16 (prD a b)) := by
  have k := ok_of hA hG
  have hx : (hv a).length = 8 ∧ D32 (hv a) ∧ v32 (hv a) = val a := by subst hhv; exact ⟨(haE_v ha).2.2, (haE_v ha).2.1, (haE_v ha).1⟩
  have hy : (hv b).length = 8 ∧ D32 (hv b) ∧ v32 (hv b) = val b := by subst hhv; exact ⟨(haE_v hb).2.2, (haE_v hb).2.1, (haE_v hb).1⟩
  refine FCall.of_body k (fn := Try.f54) rfl rfl rfl rfl (fun _ => ?_)
  refine AWP.seq (AWP.go k 100 [] ?_)
  conv => { arg 1; cbv }
  refine ⟨obs_nil, ?_⟩
  dsimp only [sthen]
  refine AWP.seq (AWP.go k 100 [] ?_)
  conv => { arg 1; cbv }
  refine ⟨obs_nil, ?_⟩
  dsimp only [sthen]
  refine AWP.seq (AWP.go k 100 [] ?_)
  conv => { arg 1; cbv }
  refine ⟨obs_nil, ?_⟩
  dsimp only [sthen]
  refine AWP.seq (AWP.seq (AWP.go k 100 [] ?_))
  conv => { arg 1; cbv }
  refine ⟨obs_nil, ?_⟩
  dsimp only [sthen]
  refine AWP.block ?_
  refine AWP.loopP (drS a b (hv a) (hv b) (A.zeros 16)) (drJ (hv a) (hv b)) (fun x => (8 - x.1).toNat) (0, List.replicate 16 0) ?_ ?_ ?_
  · refine ⟨?_, ?_, rfl⟩
    · repeat' (first | exact .nil | exact .any _ | exact .same _ | exact .lit _ _ | refine .cons ?_ ?_)
    · repeat' (first | exact .nil _ | exact .same _ | refine .cons ?_ ?_)
  · refine ⟨by simp only; omega, ⟨rfl, fun x hx => by simp at hx; subst hx; omega⟩, by simp [v32], ?_⟩
    intro j _
    simp only [List.getD_eq_getElem?_getD, List.getElem?_replicate]
    split <;> rfl
  · rintro ⟨i, p⟩ hJ
    have hi0 : 0 ≤ i ∧ i ≤ 8 := hJ.1
    by_cases hlt : i < 8
    · have ei : IntKind.wrap .i64 (i + 1) = i + 1 := wrap_i64' _ (by omega)
      have ei8 : IntKind.wrap .i64 (i + 8) = i + 8 := wrap_i64' _ (by omega)
      refine AWP.seq (AWP.go k 100 [true] ?_)
      conv => { arg 1; cbv }
      refine ⟨by subst hA; simp [obs_nil_iff, obs_cons_iff, s_lss, s_ofNat, hlt], ?_⟩
      dsimp only [sthen]
      refine AWP.seq (AWP.block ?_)
      refine AWP.seq (AWP.go k 100 [] ?_)
      conv => { arg 1; cbv }
      refine ⟨obs_nil, ?_⟩
      dsimp only [sthen]
      refine AWP.seq (AWP.seq (AWP.go k 100 [] ?_))
      conv => { arg 1; cbv }
      refine ⟨obs_nil, ?_⟩
      dsimp only [sthen]
      refine AWP.block ?_
      refine AWP.loopP (diS a b (hv a) (hv b) (A.zeros 16) i) (diJ (hv a) (hv b) i p) (fun y => (8 - y.1).toNat) (0, p, 0) ?_ ?_ ?_
      · refine ⟨?_, ?_, rfl⟩
        · repeat' (first | exact .nil | exact .any _ | exact .same _ | exact .lit _ _ | refine .cons ?_ ?_)
        · repeat' (first | exact .nil _ | exact .same _ | refine .cons ?_ ?_)
      · exact ⟨by simp only; omega, hJ.2.1, by simp only; omega, by simp [v32], hJ.2.2.2⟩
      · rintro ⟨kk, q, c⟩ hI
        have hk0 : 0 ≤ kk ∧ kk ≤ 8 := hI.1
        by_cases hlt2 : kk < 8
        · have e1 : IntKind.wrap .i64 (i + kk) = i + kk := wrap_i64' _ (by omega)
          have e2 : IntKind.wrap .i64 (kk + 1) = kk + 1 := wrap_i64' _ (by omega)
          obtain ⟨ht, hm, hst⟩ := di_step ⟨hx.1, hx.2.1⟩ ⟨hy.1, hy.2.1⟩ ⟨hi0.1, hlt⟩ hlt2 hI _ rfl
          have rq := hI.2.1.2.get (i + kk).toNat
          have rc : 0 ≤ c ∧ c < 4294967296 := hI.2.2.1
          simp only at rq
          refine AWP.go k 100 [true] ?_
          conv => { arg 1; cbv }
          refine ⟨?_, ?_⟩
          · subst hA
            simp only [obs_nil_iff, obs_cons_iff, s_lss, s_leq, s_ofNat, s_add, e1, decide_eq_true_eq]
            repeat' (first | omega | trivial | refine And.intro ?_ ?_)
          · apply handed.mk (_, _, _)
            · refine ⟨?_, ?_, rfl⟩
              · repeat' (first | exact .nil | exact .any _ | exact .same _ | exact .lit _ _ | refine .cons ?_ ?_)
              · repeat' (first | exact .nil _ | exact .same _ | refine .cons ?_ ?_)
            · subst hA
              have m1 : ∀ {z : Int}, 0 ≤ z ∧ z < 18446744073709551616 → stdAr.bin .and .u64 z ((4294967295 : Nat) : Int) = z % 4294967296 := fun hz => s_and_low 32 (by omega) hz (by decide)
              have m2 : ∀ {z : Int}, 0 ≤ z ∧ z < 18446744073709551616 → stdAr.bin .shr .u64 z ((32 : Nat) : Int) = z / 4294967296 := fun hz => s_shr 32 (by omega) hz rfl
              have w1 : (c + q.getD (i + kk).toNat 0) % 18446744073709551616 = c + q.getD (i + kk).toNat 0 := Int.emod_eq_of_lt (by omega) (by omega)
              have w2 : ((hv a).getD i.toNat 0 * (hv b).getD kk.toNat 0) % 18446744073709551616 = (hv a).getD i.toNat 0 * (hv b).getD kk.toNat 0 := Int.emod_eq_of_lt (by omega) (by omega)
              have w3 := Int.emod_eq_of_lt ht.1 ht.2
              simpa only [s_add, s_mul, s_ofNat, nc0, nc1, s_rd, s_set, e1, e2, wrap_u64', w1, w2, w3, m1 ht, m2 ht] using hst
            · subst hA
              simp only [s_add, s_ofNat, nc1, e2]
              omega
        · refine AWP.go k 100 [false] ?_
          conv => { arg 1; cbv }
          refine ⟨by subst hA; simp [obs_nil_iff, obs_cons_iff, s_lss, s_ofNat, hlt2], ?_⟩
          dsimp only [handed, sblock, sthen]
          rw [if_pos rfl]
          refine AWP.go k 100 [] ?_
          conv => { arg 1; cbv }
          refine ⟨?_, ?_⟩
          · subst hA
            simp only [obs_nil_iff, obs_cons_iff, s_lss, s_leq, s_ofNat, nc8, s_add, ei8, decide_eq_true_eq]
            refine ⟨?_, ?_, trivial⟩ <;> omega
          dsimp only [sthen, sblock]
          refine AWP.go k 100 [] ?_
          conv => { arg 1; cbv }
          refine ⟨obs_nil, ?_⟩
          apply handed.mk (_, _)
          · refine ⟨?_, ?_, rfl⟩
            · repeat' (first | exact .nil | exact .any _ | exact .same _ | exact .lit _ _ | refine .cons ?_ ?_)
            · repeat' (first | exact .nil _ | exact .same _ | refine .cons ?_ ?_)
          · subst hA
            have := dr_step ⟨hx.1, hx.2.1⟩ ⟨hy.1, hy.2.1⟩ hlt hJ hI hlt2
            simpa only [s_add, s_ofNat, nc0, nc1, nc8, s_rd, s_set, ei, ei8, wrap_u64'] using this
          · subst hA
            simp only [s_add, s_ofNat, nc1, ei]
            omega
    · refine AWP.go k 100 [false] ?_
      conv => { arg 1; cbv }
      refine ⟨by subst hA; simp [obs_nil_iff, obs_cons_iff, s_lss, s_ofNat, hlt], ?_⟩
      dsimp only [handed, sblock, sthen]
      rw [if_pos rfl]
      refine AWP.go k 100 [] ?_
      conv => { arg 1; cbv }
      refine ⟨obs_nil, ?_⟩
      refine ⟨fun id => by simp, ?_⟩
      conv => { lhs; cbv }
      obtain ⟨_, ⟨hl, hr⟩, hvv, _⟩ := hJ
      have hi4 : i = 8 := by omega
      subst hi4
      simp only at hl hr hvv
      rw [show (hv a).take (8 : Int).toNat = hv a from List.take_of_length_le (by rw [hx.1]; exact Nat.le_refl _), hx.2.2, hy.2.2] at hvv
      have : prD a b = p := by unfold prD; rw [← hvv, ← hl, encN_of hr]
      rw [this]
theorem h54 : Holds Try.prog 54 (gEE_16 prD) := holds_EE_16 fun a b ha hb => w54 stdAr rfl haE rfl ⟨h61, trivial⟩ a b ha hb
end Go.Proofs.SX

namespace Go.Proofs.SX
open Go Go.Proofs
set_option maxRecDepth 100000
set_option linter.unusedVariables false
set_option linter.unusedSimpArgs false

theorem v32_take_drop_succ (d : LI) (i : Nat) (h : 8 + i < d.length) : v32 ((d.drop 8).take (i + 1)) = v32 ((d.drop 8).take i) + d.getD (8 + i) 0 * 4294967296 ^ i := by
  rw [v32_take_succ _ _ (by simp; omega)]
  congr 2
  simp [List.getD_eq_getElem?_getD, List.getElem?_drop]
def f1J (d : LI) (s : Int × LI × Int) : Prop :=
  (0 ≤ s.1 ∧ s.1 ≤ 8) ∧ (s.2.1.length = 8 ∧ D32 s.2.1) ∧ (0 ≤ s.2.2 ∧ s.2.2 < 64) ∧ v32 s.2.1 + s.2.2 * 4294967296 ^ s.1.toNat = v32 (d.take s.1.toNat) + 38 * v32 ((d.drop 8).take s.1.toNat) ∧ ∀ j, s.1.toNat ≤ j → s.2.1.getD j 0 = 0
theorem f1_step {d : LI} {i c : Int} {e : LI} (hd : d.length = 16 ∧ D32 d) (hi : i < 8) (h : f1J d (i, e, c)) :
    ∀ t : Int, t = c + d.getD i.toNat 0 + 38 * d.getD (8 + i).toNat 0 → (0 ≤ t ∧ t < 18446744073709551616) ∧ f1J d (i + 1, e.set i.toNat (t % 4294967296), t / 4294967296) := by
  intro t ht
  obtain ⟨h1, ⟨h2, h3⟩, h4, h5, h6⟩ := h
  simp only at h1 h2 h3 h4 h5 h6
  have r1 := hd.2.get i.toNat
  have e8 : (8 + i).toNat = 8 + i.toNat := by omega
  have r2 := hd.2.get (8 + i).toNat
  have e1 : (i + 1).toNat = i.toNat + 1 := by omega
  refine ⟨by omega, by simp only; omega, ⟨by simp [h2], h3.set _ (by omega)⟩, by simp only; omega, ?_, ?_⟩
  · simp only
    rw [e8] at ht
    rw [e1, v32_take_succ _ _ (by omega), v32_take_drop_succ _ _ (by omega), v32_set _ _ _ (by omega), h6 _ (Nat.le_refl _), Int.pow_succ]
    have hq : t / 4294967296 * 4294967296 = t - t % 4294967296 := by omega
    generalize t / 4294967296 = q at *
    generalize t % 4294967296 = l at *
    generalize d.getD i.toNat 0 = x at *
    generalize d.getD (8 + i.toNat) 0 = y at *
    generalize (4294967296 : Int) ^ i.toNat = s at *
    have hl : l = t - q * 4294967296 := by omega
    subst hl
    subst ht
    grind
  · intro j hj
    simp only at hj ⊢
    rw [getD_set_ne _ _ _ _ (by omega)]
    exact h6 j (by omega)
def f2J (e : LI) (s : Int × LI) : Prop :=
  (0 ≤ s.1 ∧ s.1 ≤ 4) ∧ E4 s.2 ∧ val s.2 = v32 (e.take (2 * s.1.toNat)) ∧ ∀ j, s.1.toNat ≤ j → s.2.getD j 0 = 0
theorem f2_step {e : LI} {i : Int} {w : LI} (he : e.length = 8 ∧ D32 e) (hi : i < 4) (h : f2J e (i, w)) :
    (0 ≤ e.getD (2 * i).toNat 0 ∧ e.getD (2 * i).toNat 0 < 4294967296) ∧ (0 ≤ e.getD (2 * i + 1).toNat 0 ∧ e.getD (2 * i + 1).toNat 0 < 4294967296) ∧ f2J e (i + 1, w.set i.toNat (e.getD (2 * i).toNat 0 + e.getD (2 * i + 1).toNat 0 * 4294967296)) := by
  obtain ⟨h1, h2, h3, h4⟩ := h
  simp only at h1 h2 h3 h4
  have r1 := he.2.get (2 * i).toNat
  have r2 := he.2.get (2 * i + 1).toNat
  have e1 : (i + 1).toNat = i.toNat + 1 := by omega
  have e2 : (2 * i).toNat = 2 * i.toNat := by omega
  have e3 : (2 * i + 1).toNat = 2 * i.toNat + 1 := by omega
  refine ⟨r1, r2, by simp only; omega, ⟨by simp [h2.1], rgL_set h2.2 _ (rg64.2 (by omega))⟩, ?_, ?_⟩
  · simp only
    rw [e1, Nat.mul_add, val_set _ _ _ (by rw [h2.1]; omega), h4 _ (Nat.le_refl _), h3, show 2 * i.toNat + 2 * 1 = 2 * i.toNat + 1 + 1 by omega, v32_take_succ _ _ (by omega), v32_take_succ _ _ (by omega), e2, e3]
    have hp : (18446744073709551616 : Int) ^ i.toNat = 4294967296 ^ (2 * i.toNat) := by rw [Int.pow_mul]; rfl
    rw [hp, Int.pow_succ]
    grind
  · intro j hj
    simp only at hj ⊢
    rw [getD_set_ne _ _ _ _ (by omega)]
    exact h4 j (by omega)
end Go.Proofs.SX

namespace Go.Proofs.SX
open Go Go.Proofs
set_option maxRecDepth 100000
set_option linter.unusedVariables false
set_option linter.unusedSimpArgs false

def f1S (a b z d : LI) (s : Int × LI × Int) : St := ⟨mkF [(4, .ptr 2 0), (5, .ptr 3 0), (6, .ptr 4 0), (7, .int .u64 s.2.2), (8, .int .i64 s.1)] 73 0,
  [.cells [.arr .u64 4 a], .cells [.arr .u64 4 b], .cells [.arr .u64 4 z], .cells [.arr .u64 16 d], .cells [.arr .u64 8 s.2.1]]⟩
def f2S (a b z d e : LI) (c : Int) (s : Int × LI) : St := ⟨mkF [(4, .ptr 2 0), (6, .ptr 4 0), (7, .int .u64 c), (9, .ptr 5 0), (10, .int .i64 s.1)] 73 0,
  [.cells [.arr .u64 4 a], .cells [.arr .u64 4 b], .cells [.arr .u64 4 z], .cells [.arr .u64 16 d], .cells [.arr .u64 8 e], .cells [.arr .u64 4 s.2]]⟩
theorem prD_v {a b : LI} (ha : E4 a) (hb : E4 b) : (prD a b).length = 16 ∧ D32 (prD a b) ∧ v32 (prD a b) = val a * val b := by
  obtain ⟨_, la, ua⟩ := enc4_val ha.1 ha.2
  obtain ⟨_, lb, ub⟩ := enc4_val hb.1 hb.2
  have hm := mul_bound (n := 115792089237316195423570985008687907853269984665640564039457584007913129639935) (m := 115792089237316195423570985008687907853269984665640564039457584007913129639935) ⟨la, by omega⟩ ⟨lb, by omega⟩
  unfold prD
  generalize val a * val b = m at *
  have key : ∀ (k : Nat) (n : Int), (encN k n).length = k ∧ D32 (encN k n) ∧ (0 ≤ n → n < 4294967296 ^ k → v32 (encN k n) = n) := by
    intro k
    induction k with
    | zero => intro n; exact ⟨rfl, fun x hx => by simp [encN] at hx, fun h1 h2 => by simp [encN, v32] at *; omega⟩
    | succ k ih =>
      intro n
      obtain ⟨h1, h2, h3⟩ := ih (n / 4294967296)
      refine ⟨by simp [encN, h1], ?_, fun g1 g2 => ?_⟩
      · intro x hx
        simp only [encN, List.mem_cons] at hx
        rcases hx with rfl | hx
        · omega
        · exact h2 x hx
      · simp only [encN, v32]
        rw [h3 (by omega) (by rw [Int.pow_succ] at g2; generalize (4294967296 : Int) ^ k = s at *; omega)]
        omega
  obtain ⟨h1, h2, h3⟩ := key 16 m
  exact ⟨h1, h2, h3 hm.1 (by simp only [Int.reducePow]; omega)⟩

/-- What follows the loops. -/
theorem muE_doc {a b : LI} (ha : E4 a) (hb : E4 b) {w : LI} {c : Int} (hw : E4 w) (hc : 0 ≤ c ∧ c < 64) {lo up : LI} (hlo : lo = (prD a b).take 8) (hup : up = (prD a b).drop 8) (h : val w + c * 115792089237316195423570985008687907853269984665640564039457584007913129639936 = v32 lo + 38 * v32 up) :
    (moB w [38 * c % 18446744073709551616, 0, 0, 0] = true → rdE (plE (plE w [38 * c % 18446744073709551616, 0, 0, 0]) [38, 0, 0, 0]) = muE a b) ∧ (moB w [38 * c % 18446744073709551616, 0, 0, 0] = false → rdE (plE w [38 * c % 18446744073709551616, 0, 0, 0]) = muE a b) := by
  obtain ⟨h1, h2, h3⟩ := prD_v ha hb
  obtain ⟨_, lw, uw⟩ := enc4_val hw.1 hw.2
  have split : ∀ (n : Nat) (l : LI), v32 l = v32 (l.take n) + 4294967296 ^ n * v32 (l.drop n) := by
    intro n
    induction n with
    | zero => intro l; simp [v32]
    | succ n ih =>
      intro l
      cases l with
      | nil => simp [v32]
      | cons x l => simp only [List.take_succ_cons, List.drop_succ_cons, v32]; rw [ih l, Int.pow_succ]; grind
  have hs := split 8 (prD a b)
  rw [← hlo, ← hup, h3] at hs
  simp only [Int.reducePow] at hs
  have w1 : ∀ x : Int, val [x, 0, 0, 0] = x := fun x => by rw [val4]; omega
  have hc2 : 38 * c % 18446744073709551616 = 38 * c := by omega
  rw [hc2]
  unfold moB rdE muE plE
  simp only [decide_eq_true_eq, decide_eq_false_iff_not, w1]
  generalize val a * val b = m at *
  generalize v32 lo = L at *
  generalize v32 up = U at *
  have v1 : val (enc4 ((val w + 38 * c) % 115792089237316195423570985008687907853269984665640564039457584007913129639936)) = (val w + 38 * c) % 115792089237316195423570985008687907853269984665640564039457584007913129639936 := val_enc4 (by omega)
  rw [v1, val_enc4 (by omega)]
  unfold pr
  constructor
  · intro hge
    congr 1
    have e1 : ((val w + 38 * c) % 115792089237316195423570985008687907853269984665640564039457584007913129639936 + 38) % 115792089237316195423570985008687907853269984665640564039457584007913129639936 = val w + 38 * c - 115792089237316195423570985008687907853269984665640564039457584007913129639936 + 38 := by omega
    rw [e1]
    have key : m = val w + 38 * c - 115792089237316195423570985008687907853269984665640564039457584007913129639936 + 38 + 57896044618658097711785492504343953926634992332820282019728792003956564819949 * (2 * (U + c + 1)) := by omega
    rw [key, Int.add_mul_emod_self_left]
  · intro hlt
    congr 1
    have e1 : (val w + 38 * c) % 115792089237316195423570985008687907853269984665640564039457584007913129639936 = val w + 38 * c := by omega
    rw [e1]
    have key : m = val w + 38 * c + 57896044618658097711785492504343953926634992332820282019728792003956564819949 * (2 * (U + c)) := by omega
    rw [key, Int.add_mul_emod_self_left]
end Go.Proofs.SX

namespace Go.Proofs.SX
open Go Go.Proofs
set_option maxRecDepth 100000
set_option linter.unusedVariables false
set_option linter.unusedSimpArgs false

theorem w28 (A : Ar) (hA : A = stdAr) (rd : LI → LI) (pl pd : LI → LI → LI) (mo : LI → LI → Bool) (hrd : rd = rdE) (hpl : pl = plE) (hpd : pd = prD) (hmo : mo = moB) (hG : allHold Try.prog [(54, gEE_16 pd), (55, gEE_EB pl mo), (56, gE_E rd)]) (a b : LI) (ha : E4 a) (hb : E4 b) :
    FCall Try.prog 28 [.arr .u64 4 a, .arr .u64 4 b] (.arr .u64 4 (muE a b)) := by
  have k := ok_of hA hG
  have hd : (pd a b).length = 16 ∧ D32 (pd a b) := by subst hpd; exact ⟨(prD_v ha hb).1, (prD_v ha hb).2.1⟩
  have m1 : ∀ {z : Int}, 0 ≤ z ∧ z < 18446744073709551616 → stdAr.bin .and .u64 z ((4294967295 : Nat) : Int) = z % 4294967296 := fun hz => s_and_low 32 (by omega) hz (by decide)
  have m2 : ∀ {z : Int}, 0 ≤ z ∧ z < 18446744073709551616 → stdAr.bin .shr .u64 z ((32 : Nat) : Int) = z / 4294967296 := fun hz => s_shr 32 (by omega) hz rfl
  have m3 : ∀ {z : Int}, 0 ≤ z ∧ z < 4294967296 → stdAr.bin .shl .u64 z ((32 : Nat) : Int) = z * 4294967296 := fun hz => by
    rw [s_shl 32 (by omega) rfl]; exact Int.emod_eq_of_lt (by omega) (by omega)
  refine FCall.of_body k (fn := Try.f28) rfl rfl rfl rfl (fun _ => ?_)
  refine AWP.seq (AWP.go k 100 [] ?_)
  conv => { arg 1; cbv }
  refine ⟨obs_nil, ?_⟩
  dsimp only [sthen]
  refine AWP.seq (AWP.go k 100 [] ?_)
  conv => { arg 1; cbv }
  refine ⟨obs_nil, ?_⟩
  dsimp only [sthen]
  refine AWP.seq (AWP.go k 100 [] ?_)
  conv => { arg 1; cbv }
  refine ⟨obs_nil, ?_⟩
  dsimp only [sthen]
  refine AWP.seq (AWP.go k 100 [] ?_)
  conv => { arg 1; cbv }
  refine ⟨obs_nil, ?_⟩
  dsimp only [sthen]
  refine AWP.seq (AWP.seq (AWP.go k 100 [] ?_))
  conv => { arg 1; cbv }
  refine ⟨obs_nil, ?_⟩
  dsimp only [sthen]
  refine AWP.block ?_
  refine AWP.loopP (f1S a b (A.zeros 4) (pd a b)) (f1J (pd a b)) (fun x => (8 - x.1).toNat) (0, [0, 0, 0, 0, 0, 0, 0, 0], 0) ?_ ?_ ?_
  · refine ⟨?_, ?_, rfl⟩
    · repeat' (first | exact .nil | exact .any _ | exact .same _ | exact .lit _ _ | refine .cons ?_ ?_)
    · repeat' (first | exact .nil _ | exact .same _ | refine .cons ?_ ?_)
  · refine ⟨by simp only; omega, ⟨rfl, fun x hx => by simp at hx; subst hx; omega⟩, by simp only; omega, by simp [v32], ?_⟩
    intro j _
    match j with
    | 0 | 1 | 2 | 3 | 4 | 5 | 6 | 7 | _ + 8 => rfl
  · rintro ⟨i, e, c⟩ hJ
    have hi0 : 0 ≤ i ∧ i ≤ 8 := hJ.1
    by_cases hlt : i < 8
    · have e1 : IntKind.wrap .i64 (i + 1) = i + 1 := wrap_i64' _ (by omega)
      have e8 : IntKind.wrap .i64 (8 + i) = 8 + i := wrap_i64' _ (by omega)
      obtain ⟨ht, hst⟩ := f1_step hd hlt hJ _ rfl
      have r1 := hd.2.get i.toNat
      have r2 := hd.2.get (8 + i).toNat
      have rc : 0 ≤ c ∧ c < 64 := hJ.2.2.1
      refine AWP.go k 100 [true] ?_
      conv => { arg 1; cbv }
      refine ⟨?_, ?_⟩
      · subst hA
        simp only [obs_nil_iff, obs_cons_iff, s_lss, s_leq, s_ofNat, nc8, s_add, e8, decide_eq_true_eq]
        repeat' (first | omega | trivial | refine And.intro ?_ ?_)
      · apply handed.mk (_, _, _)
        · refine ⟨?_, ?_, rfl⟩
          · repeat' (first | exact .nil | exact .any _ | exact .same _ | exact .lit _ _ | refine .cons ?_ ?_)
          · repeat' (first | exact .nil _ | exact .same _ | refine .cons ?_ ?_)
        · subst hA
          have w1 : (c + (pd a b).getD i.toNat 0) % 18446744073709551616 = c + (pd a b).getD i.toNat 0 := Int.emod_eq_of_lt (by omega) (by omega)
          have w2 : (38 * (pd a b).getD (8 + i).toNat 0) % 18446744073709551616 = 38 * (pd a b).getD (8 + i).toNat 0 := Int.emod_eq_of_lt (by omega) (by omega)
          have w3 := Int.emod_eq_of_lt ht.1 ht.2
          have n38 : ((38 : Nat) : Int) = 38 := rfl
          simpa only [s_add, s_mul, s_ofNat, nc0, nc1, nc8, n38, s_rd, s_set, e1, e8, wrap_u64', w1, w2, w3, m1 ht, m2 ht] using hst
        · subst hA
          simp only [s_add, s_ofNat, nc1, e1]
          omega
    · refine AWP.go k 100 [false] ?_
      conv => { arg 1; cbv }
      refine ⟨by subst hA; simp [obs_nil_iff, obs_cons_iff, s_lss, s_ofNat, hlt], ?_⟩
      dsimp only [handed, sblock, sthen]
      rw [if_pos rfl]
      have hi4 : i = 8 := by omega
      subst hi4
      obtain ⟨_, he, hc, hv, _⟩ := hJ
      simp only at he hc hv
      refine AWP.seq (AWP.go k 100 [] ?_)
      conv => { arg 1; cbv }
      refine ⟨obs_nil, ?_⟩
      dsimp only [sthen]
      refine AWP.seq (AWP.seq (AWP.go k 100 [] ?_))
      conv => { arg 1; cbv }
      refine ⟨obs_nil, ?_⟩
      dsimp only [sthen]
      refine AWP.block ?_
      refine AWP.loopP (f2S a b (A.zeros 4) (pd a b) e c) (f2J e) (fun x => (4 - x.1).toNat) (0, [0, 0, 0, 0]) ?_ ?_ ?_
      · refine ⟨?_, ?_, rfl⟩
        · repeat' (first | exact .nil | exact .any _ | exact .same _ | exact .lit _ _ | refine .cons ?_ ?_)
        · repeat' (first | exact .nil _ | exact .same _ | refine .cons ?_ ?_)
      · refine ⟨by simp only; omega, ⟨rfl, rgL_zeros .u64 4⟩, by simp [val, v32], ?_⟩
        intro j _
        match j with
        | 0 | 1 | 2 | 3 | _ + 4 => rfl
      · rintro ⟨i, w⟩ hJ
        have hi0 : 0 ≤ i ∧ i ≤ 4 := hJ.1
        by_cases hlt : i < 4
        · have e1 : IntKind.wrap .i64 (i + 1) = i + 1 := wrap_i64' _ (by omega)
          have e2 : IntKind.wrap .i64 (2 * i) = 2 * i := wrap_i64' _ (by omega)
          have e3 : IntKind.wrap .i64 (2 * i + 1) = 2 * i + 1 := wrap_i64' _ (by omega)
          have n2 : ((2 : Nat) : Int) = 2 := rfl
          obtain ⟨r1, r2, hst⟩ := f2_step he hlt hJ
          refine AWP.go k 100 [true] ?_
          conv => { arg 1; cbv }
          refine ⟨?_, ?_⟩
          · subst hA
            simp only [obs_nil_iff, obs_cons_iff, s_lss, s_leq, s_ofNat, nc8, nc1, n2, s_add, s_mul, e2, e3, decide_eq_true_eq]
            repeat' (first | omega | trivial | refine And.intro ?_ ?_)
          · apply handed.mk (_, _)
            · refine ⟨?_, ?_, rfl⟩
              · repeat' (first | exact .nil | exact .any _ | exact .same _ | exact .lit _ _ | refine .cons ?_ ?_)
              · repeat' (first | exact .nil _ | exact .same _ | refine .cons ?_ ?_)
            · subst hA
              have w1 : (e.getD (2 * i).toNat 0 + e.getD (2 * i + 1).toNat 0 * 4294967296) % 18446744073709551616 = e.getD (2 * i).toNat 0 + e.getD (2 * i + 1).toNat 0 * 4294967296 := Int.emod_eq_of_lt (by omega) (by omega)
              simpa only [s_add, s_mul, s_ofNat, nc0, nc1, nc8, n2, s_rd, s_set, e1, e2, e3, wrap_u64', m3 r2, w1] using hst
            · subst hA
              simp only [s_add, s_ofNat, nc1, e1]
              omega
        · refine AWP.go k 100 [false] ?_
          conv => { arg 1; cbv }
          refine ⟨by subst hA; simp [obs_nil_iff, obs_cons_iff, s_lss, s_ofNat, hlt], ?_⟩
          dsimp only [handed, sblock, sthen]
          rw [if_pos rfl]
          have hi4 : i = 4 := by omega
          subst hi4
          obtain ⟨_, hw, hwv, _⟩ := hJ
          simp only at hw hwv
          have e88 : e.take (2 * (4 : Int).toNat) = e := List.take_of_length_le (by rw [he.1]; decide)
          rw [e88] at hwv
          have n38 : ((38 : Nat) : Int) = 38 := rfl
          have hsum : val w + c * 115792089237316195423570985008687907853269984665640564039457584007913129639936 = v32 ((pd a b).take 8) + 38 * v32 ((pd a b).drop 8) := by
            have h8 : (8 : Int).toNat = 8 := rfl
            rw [h8, show ((pd a b).drop 8).take 8 = (pd a b).drop 8 from List.take_of_length_le (by simp [hd.1])] at hv
            rw [hwv, ← hv]
            simp only [Int.reducePow]
          subst hpd
          obtain ⟨d1, d2⟩ := muE_doc ha hb hw hc rfl rfl hsum
          have em : A.bin .mul .u64 (A.ofNat 38) c = 38 * c % 18446744073709551616 := by subst hA; simp only [s_mul, s_ofNat, wrap_u64', n38]
          refine AWP.split (mo w [A.bin .mul .u64 (A.ofNat 38) c, 0, 0, 0]) (fun hm => ?_) (fun hm => ?_)
          · refine AWP.go k 100 [true] ?_
            conv => { arg 1; cbv }
            refine ⟨obs_cons hm obs_nil, ?_⟩
            refine ⟨fun id => by simp, ?_⟩
            conv => { lhs; cbv }
            subst hmo hrd hpl
            rw [em] at hm
            rw [← d1 hm, ← em]
            subst hA
            rfl
          · refine AWP.go k 100 [false] ?_
            conv => { arg 1; cbv }
            refine ⟨obs_cons hm obs_nil, ?_⟩
            refine ⟨fun id => by simp, ?_⟩
            conv => { lhs; cbv }
            subst hmo hrd hpl
            rw [em] at hm
            rw [← d2 hm, ← em]
theorem h28 : Holds Try.prog 28 (gEE_E muE) := holds_EE_E fun a b ha hb => w28 stdAr rfl rdE plE prD moB rfl rfl rfl rfl ⟨h54, h55, h56, trivial⟩ a b ha hb
end Go.Proofs.SX

namespace Go.Proofs.SX
open Go Go.Proofs
set_option maxRecDepth 100000
set_option linter.unusedVariables false
set_option linter.unusedSimpArgs false

/-- A bit of a number is one of its words. -/
theorem word_bit {n : LI} (hn : E4 n) {i : Nat} (hi : i < 256) : (n.getD (i / 64) 0).toNat / 2 ^ (i % 64) % 2 = (val n).toNat / 2 ^ i % 2 := by
  obtain ⟨a, b, c, d, rfl, h0, h1, h2, h3⟩ := words4 hn.1 hn.2
  have hw : ∀ k, k < 4 → ([a, b, c, d].getD k 0).toNat = (val [a, b, c, d]).toNat / 2 ^ (64 * k) % 2 ^ 64 := by
    intro k hk
    rw [val4]
    obtain ⟨A, rfl⟩ := Int.eq_ofNat_of_zero_le h0.1
    obtain ⟨B, rfl⟩ := Int.eq_ofNat_of_zero_le h1.1
    obtain ⟨C, rfl⟩ := Int.eq_ofNat_of_zero_le h2.1
    obtain ⟨D, rfl⟩ := Int.eq_ofNat_of_zero_le h3.1
    match k, hk with
    | 0, _ => simp only [List.getD_cons_zero, Nat.mul_zero, Nat.pow_zero, Nat.reducePow]; omega
    | 1, _ => simp only [List.getD_cons_succ, List.getD_cons_zero, Nat.mul_one, Nat.reducePow]; omega
    | 2, _ => simp only [List.getD_cons_succ, List.getD_cons_zero, Nat.reduceMul, Nat.reducePow]; omega
    | 3, _ => simp only [List.getD_cons_succ, List.getD_cons_zero, Nat.reduceMul, Nat.reducePow]; omega
  rw [hw _ (by omega)]
  generalize (val [a, b, c, d]).toNat = N
  have e : N / 2 ^ i = N / 2 ^ (64 * (i / 64)) / 2 ^ (i % 64) := by
    rw [Nat.div_div_eq_div_mul, ← Nat.pow_add]
    congr 2; omega
  rw [e]
  generalize N / 2 ^ (64 * (i / 64)) = M
  have := Nat.testBit_mod_two_pow M 64 (i % 64)
  rw [Nat.testBit_eq_decide_div_mod_eq, Nat.testBit_eq_decide_div_mod_eq] at this
  have hl : i % 64 < 64 := Nat.mod_lt _ (by omega)
  simp only [hl, decide_true, Bool.true_and, decide_eq_decide] at this
  omega

def qpJ (g : Int) (n : LI) (s : Int × LI) : Prop := (-1 ≤ s.1 ∧ s.1 ≤ 255) ∧ s.2 = enc4 (pw g ((val n).toNat / 2 ^ (s.1 + 1).toNat))
theorem qp_step {g : Int} {a n : LI} {i : Int} {o : LI} (ha : E4 a) (hg : g = val a) (hn : E4 n) (hi : 0 ≤ i) (h : qpJ g n (i, o)) :
    ((n.getD (i.toNat / 64) 0).toNat / 2 ^ (i.toNat % 64) % 2 = 1 → qpJ g n (i - 1, muE (muE o o) a)) ∧ ((n.getD (i.toNat / 64) 0).toNat / 2 ^ (i.toNat % 64) % 2 ≠ 1 → qpJ g n (i - 1, muE o o)) := by
  obtain ⟨h1, h2⟩ := h
  simp only at h1 h2
  rw [word_bit hn (by omega)]
  have e1 : (i + 1).toNat = i.toNat + 1 := by omega
  have e2 : (i - 1 + 1).toNat = i.toNat := by omega
  rw [e1, Nat.pow_succ, ← Nat.div_div_eq_div_mul] at h2
  have hsq : muE o o = enc4 (pw g ((val n).toNat / 2 ^ i.toNat / 2 * 2)) := by
    unfold muE
    rw [h2, val_enc4_pr (pw_range _ _), pw_mul (pw_self _ _) (pw_self _ _)]
    congr 2; omega
  unfold qpJ
  simp only [e2]
  constructor
  · intro hb
    refine ⟨by omega, ?_⟩
    rw [hsq]
    unfold muE
    have h1 : val a % pr = pw g 1 := by unfold pw; rw [hg, Int.pow_succ, Int.pow_zero, Int.one_mul]
    rw [val_enc4_pr (pw_range _ _), pw_mul (pw_self _ _) h1]
    congr 2; omega
  · intro hb
    refine ⟨by omega, ?_⟩
    rw [hsq]
    congr 2; omega
end Go.Proofs.SX

namespace Go.Proofs.SX
open Go Go.Proofs
set_option maxRecDepth 100000
set_option linter.unusedVariables false
set_option linter.unusedSimpArgs false

def qpS (a n z : LI) (s : Int × LI) : St := ⟨mkF [(2, .ptr 0 0), (3, .ptr 1 0), (4, .ptr 2 0), (5, .ptr 3 0), (6, .int .i64 s.1)] 29 0,
  [.cells [.arr .u64 4 a], .cells [.arr .u64 4 n], .cells [.arr .u64 4 z], .cells [.arr .u64 4 s.2]]⟩
theorem w57 (A : Ar) (hA : A = stdAr) (mu : LI → LI → LI) (hmu : mu = muE) (hG : allHold Try.prog [(28, gEE_E mu)]) (a n : LI) (ha : E4 a) (hn : E4 n) :
    FCall Try.prog 57 [.arr .u64 4 a, .arr .u64 4 n] (.arr .u64 4 (pwE a n)) := by
  have k := ok_of hA hG
  refine FCall.of_body k (fn := Try.f57) rfl rfl rfl rfl (fun _ => ?_)
  refine AWP.seq (AWP.go k 100 [] ?_)
  conv => { arg 1; cbv }
  refine ⟨obs_nil, ?_⟩
  dsimp only [sthen]
  refine AWP.seq (AWP.go k 100 [] ?_)
  conv => { arg 1; cbv }
  refine ⟨obs_nil, ?_⟩
  dsimp only [sthen]
  refine AWP.seq (AWP.seq (AWP.go k 100 [] ?_))
  conv => { arg 1; cbv }
  refine ⟨obs_nil, ?_⟩
  dsimp only [sthen]
  refine AWP.block ?_
  refine AWP.loopP (qpS a n (A.zeros 4)) (qpJ (val a) n) (fun x => (x.1 + 1).toNat) (255, [A.ofNat 1, 0, 0, 0]) ?_ ?_ ?_
  · refine ⟨?_, ?_, rfl⟩
    · repeat' (first | exact .nil | exact .any _ | exact .same _ | exact .lit _ _ | refine .cons ?_ ?_)
    · repeat' (first | exact .nil _ | exact .same _ | refine .cons ?_ ?_)
  · subst hA
    refine ⟨by simp only; omega, ?_⟩
    have h256 : (val n).toNat / 2 ^ ((255 : Int) + 1).toNat = 0 := by
      obtain ⟨_, l, u⟩ := enc4_val hn.1 hn.2
      apply Nat.div_eq_of_lt
      have : (2 : Nat) ^ ((255 : Int) + 1).toNat = 115792089237316195423570985008687907853269984665640564039457584007913129639936 := by decide
      omega
    simp only
    rw [h256]
    refine enc4_of (by simp [s_ofNat]) (by omega) (by omega) (by omega) ?_
    simp [pw, pr, s_ofNat]
  · rintro ⟨i, o⟩ hJ
    have hi0 : -1 ≤ i ∧ i ≤ 255 := hJ.1
    by_cases hlt : 0 ≤ i
    · have e1 : IntKind.wrap .i64 (i - 1) = i - 1 := wrap_i64' _ (by omega)
      obtain ⟨m, hm⟩ : ∃ m, m = i.toNat := ⟨_, rfl⟩
      have hmi : i = (m : Int) := by omega
      have n64 : ((64 : Nat) : Int) = 64 := rfl
      have q1 : stdAr.bin .quo .i64 i 64 = ((m / 64 : Nat) : Int) := by rw [hmi]; rw [s_quo (by omega) (by omega)]; simp
      have q2 : stdAr.bin .rem .i64 i 64 = ((m % 64 : Nat) : Int) := by rw [hmi]; rw [s_rem (by omega) (by omega)]; simp
      have q3 : IntKind.wrap .u64 ((m % 64 : Nat) : Int) = ((m % 64 : Nat) : Int) := wrap_nat _ (by omega)
      have rw0 := getD_rg hn.2 (m / 64)
      have q4 : stdAr.bin .shr .u64 (n.getD (m / 64) 0) ((m % 64 : Nat) : Int) = (((n.getD (m / 64) 0).toNat / 2 ^ (m % 64) : Nat) : Int) := by
        rw [s_shr (m % 64) (by omega) rw0 rfl]
        obtain ⟨x, hx⟩ := Int.eq_ofNat_of_zero_le rw0.1
        rw [hx]
        simp
      have hle : (n.getD (m / 64) 0).toNat / 2 ^ (m % 64) ≤ (n.getD (m / 64) 0).toNat := Nat.div_le_self _ _
      have q5 : stdAr.bin .and .u64 (((n.getD (m / 64) 0).toNat / 2 ^ (m % 64) : Nat) : Int) 1 = (((n.getD (m / 64) 0).toNat / 2 ^ (m % 64) % 2 : Nat) : Int) := by
        generalize (n.getD (m / 64) 0).toNat / 2 ^ (m % 64) = y at *
        rw [s_and_low 1 (by omega) (by omega) (by decide)]
        simp
      obtain ⟨st1, st2⟩ := qp_step ha rfl hn hlt hJ
      rw [← hm] at st1 st2
      by_cases hbit : (n.getD (m / 64) 0).toNat / 2 ^ (m % 64) % 2 = 1
      · refine AWP.go k 100 [true, true] ?_
        conv => { arg 1; cbv }
        refine ⟨?_, ?_⟩
        · subst hA
          simp only [obs_nil_iff, obs_cons_iff, s_lss, s_leq, s_geq, s_eql, s_ofNat, n64, nc0, nc1, nc4, s_rd, s_wrap, q1, q2, q3, q4, q5, Int.toNat_natCast, hbit]
          simp [hlt]
          try omega
        · apply handed.mk (_, _)
          · refine ⟨?_, ?_, rfl⟩
            · repeat' (first | exact .nil | exact .any _ | exact .same _ | exact .lit _ _ | refine .cons ?_ ?_)
            · repeat' (first | exact .nil _ | exact .same _ | refine .cons ?_ ?_)
          · subst hA hmu
            have := st1 hbit
            simpa only [s_sub, s_ofNat, nc1, e1] using this
          · subst hA
            simp only [s_sub, s_ofNat, nc1, e1]
            omega
      · have hb0 : (n.getD (m / 64) 0).toNat / 2 ^ (m % 64) % 2 = 0 := by omega
        refine AWP.go k 100 [true, false] ?_
        conv => { arg 1; cbv }
        refine ⟨?_, ?_⟩
        · subst hA
          simp only [obs_nil_iff, obs_cons_iff, s_lss, s_leq, s_geq, s_eql, s_ofNat, n64, nc0, nc1, nc4, s_rd, s_wrap, q1, q2, q3, q4, q5, Int.toNat_natCast, hb0]
          simp [hlt]
          try omega
        · apply handed.mk (_, _)
          · refine ⟨?_, ?_, rfl⟩
            · repeat' (first | exact .nil | exact .any _ | exact .same _ | exact .lit _ _ | refine .cons ?_ ?_)
            · repeat' (first | exact .nil _ | exact .same _ | refine .cons ?_ ?_)
          · subst hA hmu
            have := st2 hbit
            simpa only [s_sub, s_ofNat, nc1, e1] using this
          · subst hA
            simp only [s_sub, s_ofNat, nc1, e1]
            omega
    · refine AWP.go k 100 [false] ?_
      conv => { arg 1; cbv }
      refine ⟨by subst hA; simp [obs_nil_iff, obs_cons_iff, s_geq, s_ofNat]; omega, ?_⟩
      dsimp only [handed, sblock, sthen]
      rw [if_pos rfl]
      refine AWP.go k 100 [] ?_
      conv => { arg 1; cbv }
      refine ⟨obs_nil, ?_⟩
      refine ⟨fun id => by simp, ?_⟩
      conv => { lhs; cbv }
      have hi1 : i = -1 := by omega
      subst hi1
      have h4 := hJ.2
      simp only at h4
      rw [h4]
      have : (val n).toNat / 2 ^ ((-1 : Int) + 1).toNat = (val n).toNat := by
        rw [show ((-1 : Int) + 1).toNat = 0 from rfl, Nat.pow_zero, Nat.div_one]
      rw [this]
      rfl
theorem h57 : Holds Try.prog 57 (gEE_E pwE) := holds_EE_E fun a n ha hn => w57 stdAr rfl muE rfl ⟨h28, trivial⟩ a n ha hn
end Go.Proofs.SX

namespace Go.Proofs.SX
open Go Go.Proofs
set_option maxRecDepth 100000
set_option linter.unusedVariables false
set_option linter.unusedSimpArgs false

theorem w33 (A : Ar) (hA : A = stdAr) (mn pw : LI → LI → LI) (ls : LI → LI → Bool) (hG : allHold Try.prog [(53, g0 (.arr .u64 4 prE)), (52, gEE_EB mn ls), (57, gEE_E pw)]) (a : LI) :
    FCall Try.prog 33 [.arr .u64 4 a] (.arr .u64 4 (pw a (mn prE [A.ofNat 2, 0, 0, 0]))) := by
  refine FCall.exec (ok_of hA hG) (fn := Try.f33) 100 [] rfl rfl rfl (fun h => ?_)
  conv => { arg 1; cbv }
  exact ⟨obs_nil, rfl⟩
theorem h33 : Holds Try.prog 33 (gE_E inE) := holds_E_E fun a ha => by
  have h := w33 stdAr rfl mnE pwE lsB ⟨h53, h52, h57, trivial⟩ a
  unfold inE
  rw [← p2E_eq]
  exact h
theorem s_rem2 {x : Int} (hx : 0 ≤ x ∧ x < 18446744073709551616) : stdAr.bin .rem .u64 x 2 = x % 2 := by
  show IntKind.wrap .u64 (x.tmod 2) = _
  rw [Int.tmod_eq_emod_of_nonneg hx.1, wrap_u64']; omega

theorem w32 (A : Ar) (hA : A = stdAr) (rd : LI → LI) (su mu pw : LI → LI → LI) (hrd : rd = rdE) (hsu : su = suE) (hmu : mu = muE) (hpw : pw = pwE)
    (hG : allHold Try.prog [(57, gEE_E pw), (28, gEE_E mu), (56, gE_E rd), (29, gEE_E su)]) (a : LI) :
    FCall Try.prog 32 [.arr .u64 4 a] (.tup [.arr .u64 4 (rtE a), .bool (rtB a)]) := by
  have k := ok_of hA hG
  have hr := getD_rg (E4_rt2 a).2 0
  have b1 : stdAr.bin .rem .u64 ((rt2 a).getD 0 0) 2 = (rt2 a).getD 0 0 % 2 := s_rem2 hr
  have fin : ∀ (r2 : LI), rt2 a = r2 → sqB r2 a = true → (r2.getD 0 0 % 2 = 1 → rtE a = suE [0, 0, 0, 0] r2 ∧ rtB a = true ∧ stdAr.cmp .eql (stdAr.bin .rem .u64 (stdAr.rd r2 (stdAr.ofNat 0)) (stdAr.ofNat 2)) (stdAr.ofNat 1) = true) ∧
      (r2.getD 0 0 % 2 ≠ 1 → rtE a = r2 ∧ rtB a = true ∧ stdAr.cmp .eql (stdAr.bin .rem .u64 (stdAr.rd r2 (stdAr.ofNat 0)) (stdAr.ofNat 2)) (stdAr.ofNat 1) = false) := by
    intro r2 e hs
    rw [e] at hr b1
    have e3 : stdAr.bin .rem .u64 (stdAr.rd r2 (stdAr.ofNat 0)) (stdAr.ofNat 2) = r2.getD 0 0 % 2 := b1
    rw [e3]
    have hB : rtB a = true := by unfold rtB; rw [e]; exact hs
    constructor
    · intro ho
      refine ⟨by unfold rtE; rw [hB, e]; exact if_pos ho, hB, ?_⟩
      rw [ho]; rfl
    · intro ho
      refine ⟨by unfold rtE; rw [hB, e]; exact if_neg ho, hB, ?_⟩
      have : r2.getD 0 0 % 2 = 0 := by omega
      rw [this]; rfl
  have z2 : stdAr.cmp .eql (stdAr.ofNat 2) 0 = false := rfl
  have nt : ∀ b : Bool, stdAr.not b = !b := fun _ => rfl
  cases c1 : sqB (rt1 a) a
  · have e2 : rt2 a = muE (rt1 a) (pwE [2, 0, 0, 0] q4E) := by unfold rt2; rw [c1]; rfl
    have o1 : stdAr.not (sqB (rt1 a) a) = true := by rw [c1]; rfl
    cases c2 : sqB (muE (rt1 a) (pwE [2, 0, 0, 0] q4E)) a
    · refine FCall.exec k (fn := Try.f32) 100 [true, true] rfl rfl rfl (fun h => ?_)
      conv => { arg 1; cbv }
      subst hA hsu hmu hpw hrd
      have o2 : stdAr.not (sqB (muE (rt1 a) (pwE [2, 0, 0, 0] q4E)) a) = true := by rw [c2]; rfl
      have hB : rtB a = false := by unfold rtB; rw [e2]; exact c2
      have hE : rtE a = [0, 0, 0, 0] := by unfold rtE; rw [hB]; rfl
      rw [hE, hB]
      exact ⟨obs_cons o2 (obs_cons o1 obs_nil), rfl⟩
    · have o2 : stdAr.not (sqB (muE (rt1 a) (pwE [2, 0, 0, 0] q4E)) a) = false := by rw [c2]; rfl
      obtain ⟨f1, f2⟩ := fin _ e2 c2
      by_cases ho : (muE (rt1 a) (pwE [2, 0, 0, 0] q4E)).getD 0 0 % 2 = 1
      · obtain ⟨hE, hB, o3⟩ := f1 ho
        refine FCall.exec k (fn := Try.f32) 100 [true, false, true] rfl rfl rfl (fun h => ?_)
        conv => { arg 1; cbv }
        subst hA hsu hmu hpw hrd
        rw [hE, hB]
        exact ⟨obs_cons o3 (obs_cons z2 (obs_cons o2 (obs_cons o1 obs_nil))), rfl⟩
      · obtain ⟨hE, hB, o3⟩ := f2 ho
        refine FCall.exec k (fn := Try.f32) 100 [true, false, false] rfl rfl rfl (fun h => ?_)
        conv => { arg 1; cbv }
        subst hA hsu hmu hpw hrd
        rw [hE, hB]
        exact ⟨obs_cons o3 (obs_cons z2 (obs_cons o2 (obs_cons o1 obs_nil))), rfl⟩
  · have e2 : rt2 a = rt1 a := by unfold rt2; rw [c1]; rfl
    have o1 : stdAr.not (sqB (rt1 a) a) = false := by rw [c1]; rfl
    obtain ⟨f1, f2⟩ := fin _ e2 c1
    by_cases ho : (rt1 a).getD 0 0 % 2 = 1
    · obtain ⟨hE, hB, o3⟩ := f1 ho
      refine FCall.exec k (fn := Try.f32) 100 [false, false, true] rfl rfl rfl (fun h => ?_)
      conv => { arg 1; cbv }
      subst hA hsu hmu hpw hrd
      rw [hE, hB]
      exact ⟨obs_cons o3 (obs_cons z2 (obs_cons o1 (obs_cons o1 obs_nil))), rfl⟩
    · obtain ⟨hE, hB, o3⟩ := f2 ho
      refine FCall.exec k (fn := Try.f32) 100 [false, false, false] rfl rfl rfl (fun h => ?_)
      conv => { arg 1; cbv }
      subst hA hsu hmu hpw hrd
      rw [hE, hB]
      exact ⟨obs_cons o3 (obs_cons z2 (obs_cons o1 (obs_cons o1 obs_nil))), rfl⟩
theorem h32 : Holds Try.prog 32 (gE_EB rtE rtB) := holds_E_EB fun a _ => w32 stdAr rfl rdE suE muE pwE rfl rfl rfl rfl ⟨h57, h28, h56, h29, trivial⟩ a
end Go.Proofs.SX

namespace Go.Proofs.SX
open Go Go.Proofs
set_option maxRecDepth 100000
set_option linter.unusedVariables false
set_option linter.unusedSimpArgs false

def whE (b : LI) : LI := enc4 (vb b)
def whB (b : LI) : Bool := decide (b.length = 32)
def gWh (f : LI → LI) (p : LI → Bool) : List AV → Option (AV × Ob) := fun l => match l with | [.sli .u8 b] => some (.arr .u64 4 (f b), [(p b, true)]) | _ => none
def whS (b z : LI) (x : Int × LI) : St := ⟨mkF [(0, .sli .u8 b), (2, .ptr 0 0), (3, .ptr 1 0), (4, .int .i64 x.1)] 35 0, [.cells [.arr .u64 4 z], .cells [.arr .u64 4 x.2]]⟩
theorem w51 (A : Ar) (hA : A = stdAr) (b : LI) (hb : b.length = 32 ∧ RgL .u8 b) :
    FCall Try.prog 51 [.sli .u8 b] (.arr .u64 4 (whE b)) := by
  have k := ok_of (l := []) hA trivial
  refine FCall.of_body k (fn := Try.f51) rfl rfl rfl rfl (fun _ => ?_)
  refine AWP.seq (AWP.go k 100 [] ?_)
  conv => { arg 1; cbv }
  refine ⟨obs_nil, ?_⟩
  dsimp only [sthen]
  refine AWP.seq (AWP.go k 100 [] ?_)
  conv => { arg 1; cbv }
  refine ⟨obs_nil, ?_⟩
  dsimp only [sthen]
  refine AWP.seq (AWP.seq (AWP.go k 100 [] ?_))
  conv => { arg 1; cbv }
  refine ⟨obs_nil, ?_⟩
  dsimp only [sthen]
  refine AWP.block ?_
  refine AWP.loopP (whS b (A.zeros 4)) (reJ b) (fun x => (32 - x.1).toNat) (0, [0, 0, 0, 0]) ?_ ?_ ?_
  · refine ⟨?_, ?_, rfl⟩
    · repeat' (first | exact .nil | exact .any _ | exact .same _ | exact .lit _ _ | refine .cons ?_ ?_)
    · repeat' (first | exact .nil _ | exact .same _ | refine .cons ?_ ?_)
  · exact ⟨by simp only; omega, ⟨rfl, rgL_zeros .u64 4⟩, by simp [val, vb]⟩
  · rintro ⟨i, p⟩ hJ
    have hi0 : 0 ≤ i ∧ i ≤ 32 := hJ.1
    have hp : E4 p := hJ.2.1
    have n32 : ((32 : Nat) : Int) = 32 := rfl
    by_cases hlt4 : i < 32
    · obtain ⟨n, hn⟩ : ∃ n, n = i.toNat := ⟨_, rfl⟩
      have hni : i = (n : Int) := by omega
      have hJ2 := hJ.2.2
      simp only [← hn] at hJ2
      obtain ⟨l1, l2, l3, l4, l5, l6, l7⟩ := lay_step hb (by omega : n < 32) hp hJ2
      have q1 : stdAr.bin .quo .i64 i 8 = ((n / 8 : Nat) : Int) := by rw [hni]; rw [s_quo (by omega) (by omega)]; simp
      have q2 : stdAr.bin .rem .i64 i 8 = ((n % 8 : Nat) : Int) := by rw [hni]; rw [s_rem (by omega) (by omega)]; simp
      have q3 : IntKind.wrap .i64 (8 * ((n % 8 : Nat) : Int)) = ((8 * (n % 8) : Nat) : Int) := by rw [wrap_i64' _ (by omega)]; simp
      have q3' : IntKind.wrap .u64 ((8 * (n % 8) : Nat) : Int) = ((8 * (n % 8) : Nat) : Int) := wrap_nat _ (by omega)
      have q4 : IntKind.wrap .u64 (b.getD n 0) = b.getD n 0 := by rw [wrap_u64']; omega
      have hpos : 0 ≤ b.getD n 0 * 2 ^ (8 * (n % 8)) := Int.mul_nonneg l2.1 (Int.le_of_lt (Int.pow_pos (by omega)))
      have q5 : stdAr.bin .shl .u64 (b.getD n 0) ((8 * (n % 8) : Nat) : Int) = b.getD n 0 * 2 ^ (8 * (n % 8)) := by
        rw [s_shl (8 * (n % 8)) (by omega) rfl]
        exact Int.emod_eq_of_lt hpos l3
      have q6 : IntKind.wrap .u64 (p.getD (n / 8) 0 + b.getD n 0 * 2 ^ (8 * (n % 8))) = p.getD (n / 8) 0 + b.getD n 0 * 2 ^ (8 * (n % 8)) := by
        rw [wrap_u64']; exact Int.emod_eq_of_lt (by omega) l4
      have e1 : IntKind.wrap .i64 (i + 1) = i + 1 := wrap_i64' _ (by omega)
      refine AWP.go k 100 [true, true, true, true, true, true] ?_
      conv => { arg 1; cbv }
      refine ⟨?_, ?_⟩
      · subst hA
        simp only [obs_nil_iff, obs_cons_iff, s_lss, s_leq, s_eql, s_ofNat, s_len, s_wrap, nc8, nc0, nc4, n32, s_mul, s_add, q1, q2, q3, q3', decide_eq_true_eq, and_true, true_and, hb.1]
        repeat' (first | rfl | omega | trivial | refine And.intro ?_ ?_)
      · apply handed.mk (_, _)
        · refine ⟨?_, ?_, rfl⟩
          · repeat' (first | exact .nil | exact .any _ | exact .same _ | exact .lit _ _ | refine .cons ?_ ?_)
          · repeat' (first | exact .nil _ | exact .same _ | refine .cons ?_ ?_)
        · subst hA
          have : reJ b (i + 1, p.set (n / 8) (p.getD (n / 8) 0 + b.getD n 0 * 2 ^ (8 * (n % 8)))) := ⟨by simp only; omega, ⟨l5, l6⟩, by simp only; rw [show (i + 1).toNat = n + 1 by omega]; exact l7⟩
          simpa only [s_add, s_mul, s_ofNat, nc0, nc1, nc8, s_rd, s_set, s_wrap, e1, q1, q2, q3, q3', q4, q5, q6, Int.toNat_natCast, ← hn] using this
        · subst hA
          simp only [s_add, s_ofNat, nc1, e1]
          omega
    · refine AWP.go k 100 [false, false, false, false, false, false] ?_
      conv => { arg 1; cbv }
      refine ⟨by subst hA; simp [obs_nil_iff, obs_cons_iff, s_lss, s_ofNat, hlt4], ?_⟩
      dsimp only [handed, sblock, sthen]
      rw [if_pos rfl]
      have hi4 : i = 32 := by omega
      subst hi4
      have hv : val p = vb b := by
        have := hJ.2.2
        simp only at this
        rw [this, List.take_of_length_le (by rw [hb.1]; decide)]
      obtain ⟨g1, g2, g3⟩ := enc4_val hp.1 hp.2
      refine AWP.go k 100 [] ?_
      conv => { arg 1; cbv }
      refine ⟨obs_nil, ?_⟩
      refine ⟨fun id => by simp, ?_⟩
      conv => { lhs; cbv }
      have e1 : whE b = p := by unfold whE; rw [← hv, g1]
      rw [e1]
theorem h51 : Holds Try.prog 51 (gWh whE whB) := by
  intro args r ob hg ho
  unfold gWh at hg
  split at hg
  · rename_i b
    simp only [Option.some.injEq, Prod.mk.injEq] at hg; obtain ⟨rfl, rfl⟩ := hg
    have h32 := ho _ (List.mem_singleton.2 rfl)
    refine FCall.known fun ⟨own, w, vs, hv⟩ => w51 stdAr rfl b ⟨by simpa [whB] using h32, ?_⟩
    obtain ⟨v, vs', _, ⟨_, _, _, _, _, h, _⟩, _⟩ := hv
    exact h
  · simp at hg
end Go.Proofs.SX

namespace Go.Proofs.SX
open Go Go.Proofs
set_option maxRecDepth 100000
set_option linter.unusedVariables false
set_option linter.unusedSimpArgs false

theorem w27 (A : Ar) (hA : A = stdAr) (wh : LI → LI) (wb : LI → Bool) (mn : LI → LI → LI) (ls : LI → LI → Bool) (hwh : wh = whE) (hwb : wb = whB) (hls : ls = lsB) (hG : allHold Try.prog [(51, gWh wh wb), (53, g0 (.arr .u64 4 prE)), (52, gEE_EB mn ls)]) (b : LI) (hb : b.length = 32 ∧ RgL .u8 b) :
    FCall Try.prog 27 [.arr .u8 32 b] (.tup [.arr .u64 4 (reE b), .bool (reB b)]) := by
  have k := ok_of hA hG
  have hrv := vb_range hb.2
  rw [hb.1] at hrv
  have hv : val (whE b) = vb b := val_enc4 ⟨hrv.1, by have := hrv.2; simp only [Int.reducePow] at this; omega⟩
  have hB : lsB (whE b) prE = reB b := by unfold lsB reB; rw [hv, val_prE]
  have o1 : whB b = true := decide_eq_true hb.1
  have es : stdAr.sub b (stdAr.ofNat 0) (stdAr.plus (stdAr.ofNat 0) (stdAr.diff (stdAr.ofNat 32) (stdAr.ofNat 0))) = b := by
    show (b.drop 0).take 32 = b
    rw [List.drop_zero]; exact List.take_of_length_le (by rw [hb.1]; decide)
  have o2 : whB (stdAr.sub b (stdAr.ofNat 0) (stdAr.plus (stdAr.ofNat 0) (stdAr.diff (stdAr.ofNat 32) (stdAr.ofNat 0)))) = true := by rw [es]; exact o1
  have o3 : stdAr.not (lsB (whE (stdAr.sub b (stdAr.ofNat 0) (stdAr.plus (stdAr.ofNat 0) (stdAr.diff (stdAr.ofNat 32) (stdAr.ofNat 0))))) prE) = !reB b := by rw [es, hB]; rfl
  have o4 : whE (stdAr.sub b (stdAr.ofNat 0) (stdAr.plus (stdAr.ofNat 0) (stdAr.diff (stdAr.ofNat 32) (stdAr.ofNat 0)))) = whE b := by rw [es]
  have z1 : stdAr.cmp .leq 0 (stdAr.ofNat 0) = true := rfl
  have z2 : stdAr.cmp .leq (stdAr.ofNat 0) (stdAr.ofNat 32) = true := rfl
  have z3 : stdAr.cmp .leq (stdAr.ofNat 32) (stdAr.ofNat 32) = true := rfl
  cases hc : reB b
  · refine FCall.exec k (fn := Try.f27) 100 [true] rfl rfl rfl (fun h => ?_)
    conv => { arg 1; cbv }
    subst hA hwh hwb hls
    have e : reE b = [0, 0, 0, 0] := by unfold reE; exact if_neg (by unfold reB at hc; simpa using hc)
    rw [e]
    rw [hc] at o3
    exact ⟨obs_cons o3 (obs_cons o2 (obs_cons z1 (obs_cons z2 (obs_cons z3 obs_nil)))), rfl⟩
  · refine FCall.exec k (fn := Try.f27) 100 [false] rfl rfl rfl (fun h => ?_)
    conv => { arg 1; cbv }
    subst hA hwh hwb hls
    have e : reE b = whE b := by unfold reE whE; exact if_pos (by unfold reB at hc; simpa using hc)
    rw [e]
    rw [hc] at o3
    refine ⟨obs_cons o3 (obs_cons o2 (obs_cons z1 (obs_cons z2 (obs_cons z3 obs_nil)))), ?_⟩
    rw [← o4]
theorem h27 : Holds Try.prog 27 (g32_EB reE reB) := holds_32_EB fun b h1 h2 => w27 stdAr rfl whE whB mnE lsB rfl rfl rfl ⟨h51, h53, h52, trivial⟩ b ⟨h1, h2⟩
end Go.Proofs.SX

namespace Go.Proofs.SX
open Go Go.Proofs
set_option maxRecDepth 100000
set_option linter.unusedVariables false
set_option linter.unusedSimpArgs false

def dE : LI := [8496970652267935907, 31536524315187371, 10144147576115030168, 5909686906226998899]
def oneE : LI := [1, 0, 0, 0]
def zeE : LI := [0, 0, 0, 0]
def ptV (x y : LI) : AV := .agg [.arr .u64 4 x, .arr .u64 4 y]

theorem w24 (A : Ar) (hA : A = stdAr) : FCall Try.prog 24 [] (.arr .u64 4 [A.ofNat 8496970652267935907, A.ofNat 31536524315187371, A.ofNat 10144147576115030168, A.ofNat 5909686906226998899]) := by
  refine FCall.exec (ok_of (l := []) hA trivial) (fn := Try.f24) 100 [] rfl rfl rfl (fun h => ?_)
  conv => { arg 1; cbv }
  exact ⟨obs_nil, rfl⟩
theorem h24 : Holds Try.prog 24 (g0 (.arr .u64 4 dE)) := holds_0 (w24 stdAr rfl)
theorem w31 (A : Ar) (hA : A = stdAr) : FCall Try.prog 31 [] (.arr .u64 4 [A.ofNat 8496970652267935907, A.ofNat 31536524315187371, A.ofNat 10144147576115030168, A.ofNat 5909686906226998899]) := by
  refine FCall.exec (ok_of (l := []) hA trivial) (fn := Try.f31) 100 [] rfl rfl rfl (fun h => ?_)
  conv => { arg 1; cbv }
  exact ⟨obs_nil, rfl⟩
theorem h31 : Holds Try.prog 31 (g0 (.arr .u64 4 dE)) := holds_0 (w31 stdAr rfl)
theorem w21 (A : Ar) (hA : A = stdAr) (fr1 : Int → LI) (hG : allHold Try.prog [(46, gI_E A fr1)]) : FCall Try.prog 21 [] (.arr .u64 4 (fr1 (A.ofNat 1))) := by
  refine FCall.exec (ok_of hA hG) (fn := Try.f21) 100 [] rfl rfl rfl (fun h => ?_)
  conv => { arg 1; cbv }
  exact ⟨obs_nil, rfl⟩
theorem h21 : Holds Try.prog 21 (g0 (.arr .u64 4 oneE)) := holds_0 (w21 stdAr rfl _ ⟨h46, trivial⟩)
theorem w11 (A : Ar) (hA : A = stdAr) (one : LI) (hG : allHold Try.prog [(21, g0 (.arr .u64 4 one))]) : FCall Try.prog 11 [] (.agg [.arr .u64 4 (A.zeros 4), .arr .u64 4 one]) := by
  refine FCall.exec (ok_of hA hG) (fn := Try.f11) 100 [] rfl rfl rfl (fun h => ?_)
  conv => { arg 1; cbv }
  exact ⟨obs_nil, rfl⟩
theorem h11 : Holds Try.prog 11 (g0 (ptV zeE oneE)) := holds_0 (w11 stdAr rfl oneE ⟨h21, trivial⟩)
theorem w19 (A : Ar) (hA : A = stdAr) (mu : LI → LI → LI) (hG : allHold Try.prog [(23, gEE_E mu)]) (a : LI) : FCall Try.prog 19 [.arr .u64 4 a] (.arr .u64 4 (mu a a)) := by
  refine FCall.exec (ok_of hA hG) (fn := Try.f19) 100 [] rfl rfl rfl (fun h => ?_)
  conv => { arg 1; cbv }
  exact ⟨obs_nil, rfl⟩
theorem h19 : Holds Try.prog 19 (gE_E fun a => muE a a) := holds_E_E fun a _ => w19 stdAr rfl muE ⟨h23, trivial⟩ a
end Go.Proofs.SX

namespace Go.Proofs.SX
open Go Go.Proofs
set_option maxRecDepth 100000
set_option linter.unusedVariables false
set_option linter.unusedSimpArgs false

theorem and8_all : ∀ x : Fin 256, stdAr.bin .and .u8 ((x.val : Nat) : Int) 128 = ((x.val / 128 * 128 : Nat) : Int) ∧ stdAr.bin .and .u8 ((x.val : Nat) : Int) 127 = ((x.val % 128 : Nat) : Int) := by decide
theorem and8 {x : Int} (hx : 0 ≤ x ∧ x < 256) : stdAr.bin .and .u8 x 128 = x / 128 * 128 ∧ stdAr.bin .and .u8 x 127 = x % 128 := by
  obtain ⟨n, rfl⟩ := Int.eq_ofNat_of_zero_le hx.1
  obtain ⟨h1, h2⟩ := and8_all ⟨n, by omega⟩
  simp only at h1 h2
  rw [h1, h2]
  constructor <;> omega
theorem rem8 {x : Int} (hx : 0 ≤ x ∧ x < 256) : stdAr.bin .rem .u8 x 128 = x % 128 := by
  show IntKind.wrap .u8 (x.tmod 128) = _
  rw [Int.tmod_eq_emod_of_nonneg hx.1, wrap_u8']; omega

def odB (b : LI) : Bool := decide (128 ≤ b.getD 31 0)
def loB (b : LI) : LI := b.set 31 (b.getD 31 0 % 128)
def upT (b : LI) : LI := muE (suE (muE (reE (loB b)) (reE (loB b))) oneE) (inE (adE (muE dE (muE (reE (loB b)) (reE (loB b)))) oneE))
def upR (b : LI) : LI := rtE (upT b)
def upB (b : LI) : Bool := reB (loB b) && rtB (upT b) && !(odB b && stdAr.eqs (upR b) zeE)
def upX (b : LI) : LI := bif upB b then (bif odB b then suE zeE (upR b) else upR b) else zeE
def upY (b : LI) : LI := bif upB b then reE (loB b) else oneE

theorem w6 (A : Ar) (hA : A = stdAr) (re rt iv sq : LI → LI) (rb tb : LI → Bool) (su ad mu : LI → LI → LI) (hre : re = reE) (hrt : rt = rtE) (hiv : iv = inE) (hsq : sq = fun a => muE a a) (hrb : rb = reB) (htb : tb = rtB) (hsu : su = suE) (had : ad = adE) (hmu : mu = muE)
    (hG : allHold Try.prog [(18, g32_EB re rb), (11, g0 (ptV zeE oneE)), (19, gE_E sq), (21, g0 (.arr .u64 4 oneE)), (20, gEE_E su), (24, g0 (.arr .u64 4 dE)), (23, gEE_E mu), (22, gEE_E ad), (26, gE_E iv), (25, gE_EB rt tb)]) (b : LI) (hb : b.length = 32 ∧ RgL .u8 b) :
    FCall Try.prog 6 [.arr .u8 32 b] (.tup [ptV (upX b) (upY b), .bool (upB b)]) := by
  have k := ok_of hA hG
  have r31 := getD_rg8 hb.2 31
  obtain ⟨a1, a2⟩ := and8 r31
  have o0 : stdAr.cmp .neq (stdAr.bin .and .u8 (stdAr.rd b (stdAr.ofNat 31)) (stdAr.ofNat 128)) (stdAr.ofNat 0) = odB b := by
    show (stdAr.bin .and .u8 (b.getD 31 0) 128 != 0) = _
    rw [a1]
    unfold odB
    by_cases h : 128 ≤ b.getD 31 0
    · rw [decide_eq_true h, bne_iff_ne]; omega
    · rw [decide_eq_false h, bne_eq_false_iff_eq]; omega
  have l0 : stdAr.set b (stdAr.ofNat 31) (stdAr.bin .and .u8 (stdAr.rd b (stdAr.ofNat 31)) (stdAr.ofNat 127)) = loB b := by
    show b.set 31 (stdAr.bin .and .u8 (b.getD 31 0) 127) = _
    rw [a2]; rfl
  cases c1 : reB (loB b)
  · refine FCall.exec k (fn := Try.f6) 100 [true] rfl rfl rfl (fun h => ?_)
    conv => { arg 1; cbv }
    have e0 : upB b = false := by unfold upB; rw [c1]; rfl
    have e1 : upX b = zeE := by unfold upX; rw [e0]; rfl
    have e2 : upY b = oneE := by unfold upY; rw [e0]; rfl
    rw [e0, e1, e2]
    have o1 : stdAr.not (reB (stdAr.set b (stdAr.ofNat 31) (stdAr.bin .and .u8 (stdAr.rd b (stdAr.ofNat 31)) (stdAr.ofNat 127)))) = true := by rw [l0, c1]; rfl
    subst hA hre hrt hiv hsq hrb htb hsu had hmu
    exact ⟨obs_cons o1 obs_nil, rfl⟩
  · have o1 : stdAr.not (reB (stdAr.set b (stdAr.ofNat 31) (stdAr.bin .and .u8 (stdAr.rd b (stdAr.ofNat 31)) (stdAr.ofNat 127)))) = false := by rw [l0, c1]; rfl
    obtain ⟨bb, hbb⟩ : ∃ bb, bb = stdAr.set b (stdAr.ofNat 31) (stdAr.bin .and .u8 (stdAr.rd b (stdAr.ofNat 31)) (stdAr.ofNat 127)) := ⟨_, rfl⟩
    have hT : upT b = muE (suE (muE (reE bb) (reE bb)) oneE) (inE (adE (muE dE (muE (reE bb) (reE bb))) oneE)) := by rw [hbb, l0]; rfl
    cases c2 : rtB (upT b)
    · refine FCall.exec k (fn := Try.f6) 100 [false, true, true, true, true] rfl rfl rfl (fun h => ?_)
      conv => { arg 1; cbv }
      have e0 : upB b = false := by unfold upB; rw [c1, c2]; rfl
      have e1 : upX b = zeE := by unfold upX; rw [e0]; rfl
      have e2 : upY b = oneE := by unfold upY; rw [e0]; rfl
      rw [e0, e1, e2]
      subst hA hre hrt hiv hsq hrb htb hsu had hmu
      have o2 : stdAr.not (rtB (muE (suE (muE (reE bb) (reE bb)) oneE) (inE (adE (muE dE (muE (reE bb) (reE bb))) oneE)))) = true := by rw [← hT, c2]; rfl
      rw [hbb] at o2
      refine ⟨?_, rfl⟩
      simp only [obs_nil_iff, obs_cons_iff]
      exact ⟨o2, o2, o2, o2, o1, trivial⟩
    · have o2 : stdAr.not (rtB (muE (suE (muE (reE bb) (reE bb)) oneE) (inE (adE (muE dE (muE (reE bb) (reE bb))) oneE)))) = false := by rw [← hT, c2]; rfl
      rw [hbb] at o2
      cases c3 : odB b
      · rw [c3] at o0
        refine FCall.exec k (fn := Try.f6) 100 [false, false, false, false, false, false, false, false, false, false] rfl rfl rfl (fun h => ?_)
        conv => { arg 1; cbv }
        have e0 : upB b = true := by unfold upB; rw [c1, c2, c3]; rfl
        have e1 : upX b = upR b := by unfold upX; rw [e0, c3]; rfl
        have e2 : upY b = reE (loB b) := by unfold upY; rw [e0]; rfl
        rw [e0, e1, e2]
        unfold upR
        rw [hT, hbb, ← l0]
        subst hA hre hrt hiv hsq hrb htb hsu had hmu
        refine ⟨?_, rfl⟩
        simp only [obs_nil_iff, obs_cons_iff]
        exact ⟨o0, o2, o0, o2, o0, o0, o0, o2, o2, o1, trivial⟩
      · rw [c3] at o0
        cases c4 : stdAr.eqs (upR b) zeE
        · have o3 : stdAr.eqs (rtE (muE (suE (muE (reE bb) (reE bb)) oneE) (inE (adE (muE dE (muE (reE bb) (reE bb))) oneE)))) zeE = false := by rw [← hT]; exact c4
          rw [hbb] at o3
          refine FCall.exec k (fn := Try.f6) 100 [false, false, false, true, true, true, false, true, false, false, true] rfl rfl rfl (fun h => ?_)
          conv => { arg 1; cbv }
          have e0 : upB b = true := by unfold upB; rw [c1, c2, c3, c4]; rfl
          have e1 : upX b = suE zeE (upR b) := by unfold upX; rw [e0, c3]; rfl
          have e2 : upY b = reE (loB b) := by unfold upY; rw [e0]; rfl
          rw [e0, e1, e2]
          unfold upR
          rw [hT, hbb, ← l0]
          subst hA hre hrt hiv hsq hrb htb hsu had hmu
          refine ⟨?_, rfl⟩
          simp only [obs_nil_iff, obs_cons_iff]
          exact ⟨o0, o3, o2, o0, o2, o0, o0, o0, o2, o2, o1, trivial⟩
        · have o3 : stdAr.eqs (rtE (muE (suE (muE (reE bb) (reE bb)) oneE) (inE (adE (muE dE (muE (reE bb) (reE bb))) oneE)))) zeE = true := by rw [← hT]; exact c4
          rw [hbb] at o3
          refine FCall.exec k (fn := Try.f6) 100 [false, false, false, true, true, true, false, true, false, true] rfl rfl rfl (fun h => ?_)
          conv => { arg 1; cbv }
          have e0 : upB b = false := by unfold upB; rw [c1, c2, c3, c4]; rfl
          have e1 : upX b = zeE := by unfold upX; rw [e0]; rfl
          have e2 : upY b = oneE := by unfold upY; rw [e0]; rfl
          rw [e0, e1, e2]
          subst hA hre hrt hiv hsq hrb htb hsu had hmu
          refine ⟨?_, rfl⟩
          simp only [obs_nil_iff, obs_cons_iff]
          exact ⟨o3, o2, o0, o2, o0, o0, o0, o2, o2, o1, trivial⟩
end Go.Proofs.SX

namespace Go.Proofs.SX
open Go Go.Proofs
set_option maxRecDepth 100000
set_option linter.unusedVariables false
set_option linter.unusedSimpArgs false

def g32_PB (f g : LI → LI) (p : LI → Bool) : List AV → Option (AV × Ob) := fun l => match l with | [.arr .u8 32 a] => some (.tup [.agg [.arr .u64 4 (f a), .arr .u64 4 (g a)], .bool (p a)], []) | _ => none
theorem holds_32_PB {P : Program} {f : FuncId} {F G : LI → LI} {H : LI → Bool} (h : ∀ a, a.length = 32 → RgL .u8 a → FCall P f [.arr .u8 32 a] (.tup [ptV (F a) (G a), .bool (H a)])) : Holds P f (g32_PB F G H) := by
  intro args r ob hg ho
  unfold g32_PB at hg
  split at hg
  · simp only [Option.some.injEq, Prod.mk.injEq] at hg; obtain ⟨rfl, rfl⟩ := hg; exact FCall.known fun hk => h _ (known1 hk).1.1 (known1 hk).1.2
  · simp at hg
theorem h6 : Holds Try.prog 6 (g32_PB upX upY upB) := holds_32_PB fun b h1 h2 => w6 stdAr rfl reE rtE inE _ reB rtB suE adE muE rfl rfl rfl rfl rfl rfl rfl rfl rfl ⟨h18, h11, h19, h21, h20, h24, h23, h22, h26, h25, trivial⟩ b ⟨h1, h2⟩

theorem w34 (A : Ar) (hA : A = stdAr) : FCall Try.prog 34 [] (.agg [.arr .u64 4 (A.zeros 4), .arr .u64 4 [A.ofNat 1, 0, 0, 0]]) := by
  refine FCall.exec (ok_of (l := []) hA trivial) (fn := Try.f34) 100 [] rfl rfl rfl (fun h => ?_)
  conv => { arg 1; cbv }
  exact ⟨obs_nil, rfl⟩
theorem h34 : Holds Try.prog 34 (g0 (ptV zeE oneE)) := holds_0 (w34 stdAr rfl)

theorem w7 (A : Ar) (hA : A = stdAr) (re rt iv : LI → LI) (rb tb : LI → Bool) (su ad mu : LI → LI → LI) (hre : re = reE) (hrt : rt = rtE) (hiv : iv = inE) (hrb : rb = reB) (htb : tb = rtB) (hsu : su = suE) (had : ad = adE) (hmu : mu = muE)
    (hG : allHold Try.prog [(27, g32_EB re rb), (34, g0 (ptV zeE oneE)), (29, gEE_E su), (31, g0 (.arr .u64 4 dE)), (28, gEE_E mu), (30, gEE_E ad), (33, gE_E iv), (32, gE_EB rt tb)]) (b : LI) (hb : b.length = 32 ∧ RgL .u8 b) :
    FCall Try.prog 7 [.arr .u8 32 b] (.tup [ptV (upX b) (upY b), .bool (upB b)]) := by
  have k := ok_of hA hG
  have r31 := getD_rg8 hb.2 31
  have o0 : stdAr.cmp .geq (stdAr.rd b (stdAr.ofNat 31)) (stdAr.ofNat 128) = odB b := rfl
  have z0 : stdAr.cmp .eql (stdAr.ofNat 128) 0 = false := rfl
  have l0 : stdAr.set b (stdAr.ofNat 31) (stdAr.bin .rem .u8 (stdAr.rd b (stdAr.ofNat 31)) (stdAr.ofNat 128)) = loB b := by
    show b.set 31 (stdAr.bin .rem .u8 (b.getD 31 0) 128) = _
    rw [rem8 r31]; rfl
  obtain ⟨bb, hbb⟩ : ∃ bb, bb = stdAr.set b (stdAr.ofNat 31) (stdAr.bin .rem .u8 (stdAr.rd b (stdAr.ofNat 31)) (stdAr.ofNat 128)) := ⟨_, rfl⟩
  have hT : upT b = muE (suE (muE (reE bb) (reE bb)) oneE) (inE (adE (muE dE (muE (reE bb) (reE bb))) oneE)) := by rw [hbb, l0]; rfl
  cases c1 : reB (loB b)
  · have o1 : stdAr.not (reB bb) = true := by rw [hbb, l0, c1]; rfl
    rw [hbb] at o1
    refine FCall.exec k (fn := Try.f7) 100 [true, true, true] rfl rfl rfl (fun h => ?_)
    conv => { arg 1; cbv }
    have e0 : upB b = false := by unfold upB; rw [c1]; rfl
    have e1 : upX b = zeE := by unfold upX; rw [e0]; rfl
    have e2 : upY b = oneE := by unfold upY; rw [e0]; rfl
    rw [e0, e1, e2]
    subst hA hre hrt hiv hrb htb hsu had hmu
    refine ⟨?_, rfl⟩
    simp only [obs_nil_iff, obs_cons_iff]
    exact ⟨o1, o1, o1, z0, trivial⟩
  · have o1 : stdAr.not (reB bb) = false := by rw [hbb, l0, c1]; rfl
    rw [hbb] at o1
    cases c2 : rtB (upT b)
    · refine FCall.exec k (fn := Try.f7) 100 [false, false, false, true, true, true, true] rfl rfl rfl (fun h => ?_)
      conv => { arg 1; cbv }
      have e0 : upB b = false := by unfold upB; rw [c1, c2]; rfl
      have e1 : upX b = zeE := by unfold upX; rw [e0]; rfl
      have e2 : upY b = oneE := by unfold upY; rw [e0]; rfl
      rw [e0, e1, e2]
      subst hA hre hrt hiv hrb htb hsu had hmu
      have o2 : stdAr.not (rtB (muE (suE (muE (reE bb) (reE bb)) oneE) (inE (adE (muE dE (muE (reE bb) (reE bb))) oneE)))) = true := by rw [← hT, c2]; rfl
      rw [hbb] at o2
      refine ⟨?_, rfl⟩
      simp only [obs_nil_iff, obs_cons_iff]
      exact ⟨o2, o2, o2, o2, o1, o1, o1, z0, trivial⟩
    · have o2 : stdAr.not (rtB (muE (suE (muE (reE bb) (reE bb)) oneE) (inE (adE (muE dE (muE (reE bb) (reE bb))) oneE)))) = false := by rw [← hT, c2]; rfl
      rw [hbb] at o2
      cases c3 : odB b
      · rw [c3] at o0
        refine FCall.exec k (fn := Try.f7) 100 [false, false, false, false, false, false, false, false, false, false, false, false] rfl rfl rfl (fun h => ?_)
        conv => { arg 1; cbv }
        have e0 : upB b = true := by unfold upB; rw [c1, c2, c3]; rfl
        have e1 : upX b = upR b := by unfold upX; rw [e0, c3]; rfl
        have e2 : upY b = reE (loB b) := by unfold upY; rw [e0]; rfl
        rw [e0, e1, e2]
        unfold upR
        rw [hT, hbb, ← l0]
        subst hA hre hrt hiv hrb htb hsu had hmu
        refine ⟨?_, rfl⟩
        simp only [obs_nil_iff, obs_cons_iff]
        exact ⟨o0, o2, o0, o2, o0, o0, o0, o2, o2, o1, o1, o1, z0, trivial⟩
      · rw [c3] at o0
        cases c4 : stdAr.eqs (upR b) zeE
        · have o3 : stdAr.eqs (rtE (muE (suE (muE (reE bb) (reE bb)) oneE) (inE (adE (muE dE (muE (reE bb) (reE bb))) oneE)))) zeE = false := by rw [← hT]; exact c4
          rw [hbb] at o3
          refine FCall.exec k (fn := Try.f7) 100 [false, false, false, false, false, true, true, true, false, true, false, false, true] rfl rfl rfl (fun h => ?_)
          conv => { arg 1; cbv }
          have e0 : upB b = true := by unfold upB; rw [c1, c2, c3, c4]; rfl
          have e1 : upX b = suE zeE (upR b) := by unfold upX; rw [e0, c3]; rfl
          have e2 : upY b = reE (loB b) := by unfold upY; rw [e0]; rfl
          rw [e0, e1, e2]
          unfold upR
          rw [hT, hbb, ← l0]
          subst hA hre hrt hiv hrb htb hsu had hmu
          refine ⟨?_, rfl⟩
          simp only [obs_nil_iff, obs_cons_iff]
          exact ⟨o0, o3, o2, o0, o2, o0, o0, o0, o2, o2, o1, o1, o1, z0, trivial⟩
        · have o3 : stdAr.eqs (rtE (muE (suE (muE (reE bb) (reE bb)) oneE) (inE (adE (muE dE (muE (reE bb) (reE bb))) oneE)))) zeE = true := by rw [← hT]; exact c4
          rw [hbb] at o3
          refine FCall.exec k (fn := Try.f7) 100 [false, false, false, false, false, true, true, true, false, true, false, true] rfl rfl rfl (fun h => ?_)
          conv => { arg 1; cbv }
          have e0 : upB b = false := by unfold upB; rw [c1, c2, c3, c4]; rfl
          have e1 : upX b = zeE := by unfold upX; rw [e0]; rfl
          have e2 : upY b = oneE := by unfold upY; rw [e0]; rfl
          rw [e0, e1, e2]
          subst hA hre hrt hiv hrb htb hsu had hmu
          refine ⟨?_, rfl⟩
          simp only [obs_nil_iff, obs_cons_iff]
          exact ⟨o3, o2, o0, o2, o0, o0, o0, o2, o2, o1, o1, o1, z0, trivial⟩
theorem h7 : Holds Try.prog 7 (g32_PB upX upY upB) := holds_32_PB fun b h1 h2 => w7 stdAr rfl reE rtE inE reB rtB suE adE muE rfl rfl rfl rfl rfl rfl rfl rfl ⟨h27, h34, h29, h31, h28, h30, h33, h32, trivial⟩ b ⟨h1, h2⟩
end Go.Proofs.SX

namespace Go.Proofs.SX
open Go Go.Proofs
set_option maxRecDepth 100000
set_option linter.unusedVariables false
set_option linter.unusedSimpArgs false

def onL (x y : LI) : Bool := stdAr.eqs (suE (muE y y) (muE x x)) (adE oneE (muE dE (muE (muE x x) (muE y y))))
def onP (x y : LI) : Bool := bif stdAr.eqs (rdE x) x then (bif stdAr.eqs (rdE y) y then onL x y else false) else false

def gP_B (g : LI → LI → Bool) : List AV → Option (AV × Ob) := fun l => match l with | [.agg [.arr .u64 4 a, .arr .u64 4 b]] => some (.bool (g a b), []) | _ => none
def gP_P (f g : LI → LI → LI) : List AV → Option (AV × Ob) := fun l => match l with | [.agg [.arr .u64 4 a, .arr .u64 4 b]] => some (.agg [.arr .u64 4 (f a b), .arr .u64 4 (g a b)], []) | _ => none
def gP_32 (f : LI → LI → LI) : List AV → Option (AV × Ob) := fun l => match l with | [.agg [.arr .u64 4 a, .arr .u64 4 b]] => some (.arr .u8 32 (f a b), []) | _ => none

theorem known2 {k k' : IntKind} {n n' : Nat} {a b : LI} {l : List AV} (h : ∃ own w vs, VRL (RC0 own w) (.agg [.arr k n a, .arr k' n' b] :: l) vs) : ((a.length = n ∧ RgL k a) ∧ (b.length = n' ∧ RgL k' b)) ∧ ∃ own w vs, VRL (RC0 own w) l vs := by
  obtain ⟨own, w, vs, v, vs', rfl, ⟨cs, rfl, ⟨c1, rfl, h1, h2, c2, rfl, h3, h4, _⟩⟩, h5⟩ := h
  exact ⟨⟨⟨h1, h2⟩, h3, h4⟩, own, w, vs', h5⟩

section
variable {P : Program} {f : FuncId}
theorem point_of {r : AV} {a b : LI} (h : E4 a → E4 b → FCall P f [ptV a b] r) : FCall P f [ptV a b] r :=
  FCall.known fun hk => h (known2 hk).1.1 (known2 hk).1.2
theorem holds_P_B {G : LI → LI → Bool} (h : ∀ a b, E4 a → E4 b → FCall P f [ptV a b] (.bool (G a b))) : Holds P f (gP_B G) := by
  intro args r ob hg ho
  unfold gP_B at hg
  split at hg
  · simp only [Option.some.injEq, Prod.mk.injEq] at hg; obtain ⟨rfl, rfl⟩ := hg; exact point_of (h _ _)
  · simp at hg
theorem holds_P_P {F G : LI → LI → LI} (h : ∀ a b, E4 a → E4 b → FCall P f [ptV a b] (ptV (F a b) (G a b))) : Holds P f (gP_P F G) := by
  intro args r ob hg ho
  unfold gP_P at hg
  split at hg
  · simp only [Option.some.injEq, Prod.mk.injEq] at hg; obtain ⟨rfl, rfl⟩ := hg; exact point_of (h _ _)
  · simp at hg
theorem holds_P_32 {F : LI → LI → LI} (h : ∀ a b, E4 a → E4 b → FCall P f [ptV a b] (.arr .u8 32 (F a b))) : Holds P f (gP_32 F) := by
  intro args r ob hg ho
  unfold gP_32 at hg
  split at hg
  · simp only [Option.some.injEq, Prod.mk.injEq] at hg; obtain ⟨rfl, rfl⟩ := hg; exact point_of (h _ _)
  · simp at hg
end

theorem w9 (A : Ar) (hA : A = stdAr) (rd sq : LI → LI) (su ad mu : LI → LI → LI) (hrd : rd = rdE) (hsq : sq = fun a => muE a a) (hsu : su = suE) (had : ad = adE) (hmu : mu = muE)
    (hG : allHold Try.prog [(35, gE_E rd), (19, gE_E sq), (20, gEE_E su), (21, g0 (.arr .u64 4 oneE)), (24, g0 (.arr .u64 4 dE)), (23, gEE_E mu), (22, gEE_E ad)]) (x y : LI) :
    FCall Try.prog 9 [ptV x y] (.bool (onP x y)) := by
  have k := ok_of hA hG
  cases c1 : stdAr.eqs (rdE x) x
  · refine FCall.exec k (fn := Try.f9) 100 (List.replicate 7 true) rfl rfl rfl (fun h => ?_)
    conv => { arg 1; cbv }
    have e0 : onP x y = false := by unfold onP; rw [c1]; rfl
    rw [e0]
    subst hA hrd hsq hsu had hmu
    refine ⟨?_, rfl⟩
    simp only [obs_nil_iff, obs_cons_iff, s_not, c1]
    trivial
  · cases c2 : stdAr.eqs (rdE y) y
    · refine FCall.exec k (fn := Try.f9) 100 (List.replicate 7 false ++ [true]) rfl rfl rfl (fun h => ?_)
      conv => { arg 1; cbv }
      have e0 : onP x y = false := by unfold onP; rw [c1, c2]; rfl
      rw [e0]
      subst hA hrd hsq hsu had hmu
      refine ⟨?_, rfl⟩
      simp only [obs_nil_iff, obs_cons_iff, s_not, c1, c2]
      trivial
    · refine FCall.exec k (fn := Try.f9) 100 (List.replicate 8 false) rfl rfl rfl (fun h => ?_)
      conv => { arg 1; cbv }
      have e0 : onP x y = onL x y := by unfold onP; rw [c1, c2]; rfl
      rw [e0]
      subst hA hrd hsq hsu had hmu
      refine ⟨?_, rfl⟩
      simp only [obs_nil_iff, obs_cons_iff, s_not, c1, c2]
      trivial
theorem h9 : Holds Try.prog 9 (gP_B onP) := holds_P_B fun x y _ _ => w9 stdAr rfl rdE _ suE adE muE rfl rfl rfl rfl rfl ⟨h35, h19, h20, h21, h24, h23, h22, trivial⟩ x y

def tkX (x y : LI) : LI := bif onP x y then x else zeE
def tkY (x y : LI) : LI := bif onP x y then y else oneE
theorem w36 (A : Ar) (hA : A = stdAr) (on : LI → LI → Bool) (hon : on = onP) (hG : allHold Try.prog [(9, gP_B on), (11, g0 (ptV zeE oneE))]) (x y : LI) :
    FCall Try.prog 36 [ptV x y] (ptV (tkX x y) (tkY x y)) := by
  have k := ok_of hA hG
  cases c1 : onP x y
  · refine FCall.exec k (fn := Try.f36) 100 (List.replicate 9 false) rfl rfl rfl (fun h => ?_)
    conv => { arg 1; cbv }
    have e1 : tkX x y = zeE := by unfold tkX; rw [c1]; rfl
    have e2 : tkY x y = oneE := by unfold tkY; rw [c1]; rfl
    rw [e1, e2]
    subst hA hon
    refine ⟨?_, rfl⟩
    simp only [obs_nil_iff, obs_cons_iff, c1, true_and]
  · refine FCall.exec k (fn := Try.f36) 100 (List.replicate 9 true) rfl rfl rfl (fun h => ?_)
    conv => { arg 1; cbv }
    have e1 : tkX x y = x := by unfold tkX; rw [c1]; rfl
    have e2 : tkY x y = y := by unfold tkY; rw [c1]; rfl
    rw [e1, e2]
    subst hA hon
    refine ⟨?_, rfl⟩
    simp only [obs_nil_iff, obs_cons_iff, c1, true_and]
theorem h36 : Holds Try.prog 36 (gP_P tkX tkY) := holds_P_P fun x y _ _ => w36 stdAr rfl onP rfl ⟨h9, h11, trivial⟩ x y

def bsX : LI := [14507833142362363162, 7578651490590762930, 13881468655802702940, 2407515759118799870]
def bsY : LI := [7378697629483820632, 7378697629483820646, 7378697629483820646, 7378697629483820646]
theorem w16 (A : Ar) (hA : A = stdAr) : FCall Try.prog 16 [] (ptV [A.ofNat 14507833142362363162, A.ofNat 7578651490590762930, A.ofNat 13881468655802702940, A.ofNat 2407515759118799870] [A.ofNat 7378697629483820632, A.ofNat 7378697629483820646, A.ofNat 7378697629483820646, A.ofNat 7378697629483820646]) := by
  refine FCall.exec (ok_of (l := []) hA trivial) (fn := Try.f16) 100 [] rfl rfl rfl (fun h => ?_)
  conv => { arg 1; cbv }
  exact ⟨obs_nil, rfl⟩
theorem h16 : Holds Try.prog 16 (g0 (ptV bsX bsY)) := holds_0 (w16 stdAr rfl)
end Go.Proofs.SX

namespace Go.Proofs.SX
open Go Go.Proofs
set_option maxRecDepth 100000
set_option linter.unusedVariables false
set_option linter.unusedSimpArgs false

theorem or8_all : ∀ x : Fin 128, ∀ y : Fin 2, stdAr.bin .or .u8 ((x.val : Nat) : Int) (stdAr.bin .shl .u8 (stdAr.wrap .u8 ((y.val : Nat) : Int)) 7) = ((x.val + y.val * 128 : Nat) : Int) := by decide
theorem or8 {x y : Int} (hx : 0 ≤ x ∧ x < 128) (hy : 0 ≤ y ∧ y < 2) : stdAr.bin .or .u8 x (stdAr.bin .shl .u8 (stdAr.wrap .u8 y) 7) = x + y * 128 := by
  obtain ⟨n, rfl⟩ := Int.eq_ofNat_of_zero_le hx.1
  obtain ⟨m, rfl⟩ := Int.eq_ofNat_of_zero_le hy.1
  have := or8_all ⟨n, by omega⟩ ⟨m, by omega⟩
  simp only at this
  rw [this]; omega

def pkE (x y : LI) : LI := (byE (tkY x y)).set 31 ((byE (tkY x y)).getD 31 0 + (tkX x y).getD 0 0 % 2 * 128)

theorem by31 (a : LI) : 0 ≤ (byE a).getD 31 0 ∧ (byE a).getD 31 0 < 128 := by
  have e : (byE a).getD 31 0 = (rdE a).getD 3 0 / 2 ^ 56 % 256 := rfl
  rw [e]
  unfold rdE enc4
  simp only [List.getD_cons_succ, List.getD_cons_zero]
  have h : 0 ≤ val a % pr ∧ val a % pr < pr := by unfold pr; omega
  unfold pr at h ⊢
  generalize val a % 57896044618658097711785492504343953926634992332820282019728792003956564819949 = v at h
  omega

theorem w10 (A : Ar) (hA : A = stdAr) (tx ty : LI → LI → LI) (htx : tx = tkX) (hty : ty = tkY) (by_ : LI → LI) (hby : by_ = byE) (hG : allHold Try.prog [(36, gP_P tx ty), (37, gE_32 by_)]) (x y : LI) (hx : E4 x) :
    FCall Try.prog 10 [ptV x y] (.arr .u8 32 (pkE x y)) := by
  have k := ok_of hA hG
  refine FCall.exec k (fn := Try.f10) 100 [] rfl rfl rfl (fun h => ?_)
  conv => { arg 1; cbv }
  subst hA htx hty hby
  refine ⟨?_, ?_⟩
  · simp [obs_nil_iff, obs_cons_iff, s_leq, s_ofNat]
  · have h4 : E4 (tkX x y) := by
      unfold tkX; cases onP x y
      · exact ⟨rfl, by intro z hz; simp [zeE] at hz; subst hz; exact rg_zero _⟩
      · exact hx
    have h0 := getD_rg h4.2 0
    have e1 : stdAr.bin .and .u64 (stdAr.rd (tkX x y) (stdAr.ofNat 0)) (stdAr.ofNat 1) = (tkX x y).getD 0 0 % 2 := s_and_low 1 (by omega) h0 (by decide)
    have e2 : stdAr.rd (byE (tkY x y)) (stdAr.ofNat 31) = (byE (tkY x y)).getD 31 0 := rfl
    have h3 := by31 (tkY x y)
    have e3 := or8 h3 (y := (tkX x y).getD 0 0 % 2) (by omega)
    show AV.arr .u8 32 (stdAr.set (byE (tkY x y)) (stdAr.ofNat 31) (stdAr.bin .or .u8 (stdAr.rd (byE (tkY x y)) (stdAr.ofNat 31)) (stdAr.bin .shl .u8 (stdAr.wrap .u8 (stdAr.bin .and .u64 (stdAr.rd (tkX x y) (stdAr.ofNat 0)) (stdAr.ofNat 1))) (stdAr.ofNat 7)))) = _
    rw [e1, e2]
    have e4 : stdAr.ofNat 7 = 7 := rfl
    rw [e4, e3]
    rfl
theorem h10 : Holds Try.prog 10 (gP_32 pkE) := holds_P_32 fun x y hx _ => w10 stdAr rfl tkX tkY rfl rfl byE rfl ⟨h36, h37, trivial⟩ x y hx

theorem w8 (A : Ar) (hA : A = stdAr) (on : LI → LI → Bool) (pk : LI → LI → LI) (bx b_y : LI) (hG : allHold Try.prog [(16, g0 (ptV bx b_y)), (10, gP_32 pk), (9, gP_B on), (11, g0 (ptV zeE oneE))])
    (h1 : on bx b_y = true) (h2 : stdAr.rd (pk bx b_y) 0 = 88) (h3 : stdAr.rd (pk bx b_y) 31 = 102) (h4 : on zeE zeE = false) : FCall Try.prog 8 [] (.bool true) := by
  refine FCall.exec (ok_of hA hG) (fn := Try.f8) 100 (List.replicate 17 true) rfl rfl rfl (fun h => ?_)
  conv => { arg 1; cbv }
  subst hA
  have a1 : (stdAr.rd (pk bx b_y) 0 == 88) = true := by rw [h2]; rfl
  have a2 : (stdAr.rd (pk bx b_y) 31 == 102) = true := by rw [h3]; rfl
  refine ⟨?_, ?_⟩
  · simp only [obs_nil_iff, obs_cons_iff]
    exact ⟨rfl, rfl, rfl, rfl, a2, a2, a2, a2, a2, a1, a1, a1, a1, h1, h1, h1, h1, trivial⟩
  · show AV.bool (stdAr.not (on zeE zeE)) = _
    rw [h4]; rfl
theorem h8 : Holds Try.prog 8 (g0 (.bool true)) := holds_0 (w8 stdAr rfl onP pkE bsX bsY ⟨h16, h10, h9, h11, trivial⟩ (by decide +kernel) (by decide +kernel) (by decide +kernel) (by decide +kernel))
end Go.Proofs.SX

namespace Go.Proofs.SX
open Go Go.Proofs
set_option maxRecDepth 100000
set_option linter.unusedVariables false
set_option linter.unusedSimpArgs false

theorem s_beq (a b : Bool) : stdAr.beq a b = (a == b) := rfl
theorem s_eqs_refl (a : LI) : stdAr.eqs a a = true := by rw [s_eqs]; simp
theorem w3 (A : Ar) (hA : A = stdAr) (ux uy : LI → LI) (ub : LI → Bool) (hG : allHold Try.prog [(6, g32_PB ux uy ub), (7, g32_PB ux uy ub), (8, g0 (.bool true))]) (b : LI) : FCall Try.prog 3 [.arr .u8 32 b] (.bool true) := by
  refine FCall.exec (ok_of hA hG) (fn := Try.f3) 100 (List.replicate 20 true) rfl rfl rfl (fun h => ?_)
  conv => { arg 1; cbv }
  subst hA
  have e1 : stdAr.and (stdAr.eqs (ux b) (ux b)) (stdAr.and (stdAr.eqs (uy b) (uy b)) true) = true := by rw [s_eqs_refl, s_eqs_refl]; rfl
  have e2 : stdAr.beq (ub b) (ub b) = true := by rw [s_beq]; simp
  refine ⟨?_, congrArg AV.bool e2⟩
  simp only [obs_nil_iff, obs_cons_iff]
  repeat' (first | exact trivial | exact rfl | exact e1 | refine ⟨?_, ?_⟩)
end Go.Proofs.SX
