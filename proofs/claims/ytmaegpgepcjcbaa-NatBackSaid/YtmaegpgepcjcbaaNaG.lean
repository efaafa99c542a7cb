/- Shapes of contracts over slices and numbers (printed by genshape.py). Conditions: none. -/
import Derived.Test.YtmaegpgepcjcbaaSx3
set_option linter.all false
namespace Go.Proofs.SX
open Go Go.RowKit
set_option linter.unusedVariables false
theorem known_sli {k : IntKind} {a : LI} {l : List AV} (h : ∃ own w vs, VRL (RC0 own w) (.sli k a :: l) vs) : (RgL k a ∧ a.length ≤ 9223372036854775807) ∧ ∃ own w vs, VRL (RC0 own w) l vs := by
  obtain ⟨own, w, vs, v, vs', rfl, ⟨ad, cap, hv, h1, h2, h3, h4⟩, h5⟩ := h
  exact ⟨⟨h3, h2⟩, own, w, vs', h5⟩
theorem known_int {k : IntKind} {x : Int} {l : List AV} (h : ∃ own w vs, VRL (RC0 own w) (.int k x :: l) vs) : Rg k x ∧ ∃ own w vs, VRL (RC0 own w) l vs := by
  obtain ⟨own, w, vs, v, vs', rfl, ⟨hv, h1⟩, h5⟩ := h
  exact ⟨h1, own, w, vs', h5⟩
/-- Numbers of a kind, not too many. -/
def Nm (k : IntKind) (a : LI) : Prop := RgL k a ∧ a.length ≤ 9223372036854775807
section
variable {P : Program} {f : FuncId}
def gS_S (f0 : LI → LI) : List AV → Option (AV × Ob) := fun l => match l with | [.sli .u32 x0] => some (.sli .u32 (f0 x0), []) | _ => none
theorem holds_S_S {f0 : LI → LI} (h : ∀ (x0 : LI), (n0 : Nm .u32 x0) → FCall P f [.sli .u32 x0] (.sli .u32 (f0 x0))) : Holds P f (gS_S f0) := by
  intro args r ob hg ho
  unfold gS_S at hg
  split at hg
  · simp only [Option.some.injEq, Prod.mk.injEq] at hg; obtain ⟨rfl, rfl⟩ := hg
    refine FCall.known fun hk => ?_
    obtain ⟨n0, k0⟩ := known_sli hk
    exact h _ n0
  · simp at hg
def gSI_Up (A : Ar) (f0 : LI → Int → Int) (p : LI → Int → Bool) : List AV → Option (AV × Ob) := fun l => match normL A l with | [.sli .u32 x0, .int .i64 x1] => some (.int .u32 (f0 x0 x1), [(p x0 x1, true)]) | _ => none
theorem holds_SI_Up {f0 : LI → Int → Int} {p : LI → Int → Bool} (h : ∀ (x0 : LI) (x1 : Int), (n0 : Nm .u32 x0) → (n1 : Rg .i64 x1) → p x0 x1 = true → FCall P f [.sli .u32 x0, .int .i64 x1] (.int .u32 (f0 x0 x1))) : Holds P f (gSI_Up stdAr f0 p) := by
  refine Holds.norm (g := fun l => match l with | [.sli .u32 x0, .int .i64 x1] => some (.int .u32 (f0 x0 x1), [(p x0 x1, true)]) | _ => none) ?_
  intro args r ob hg ho
  dsimp only at hg
  split at hg
  · simp only [Option.some.injEq, Prod.mk.injEq] at hg; obtain ⟨rfl, rfl⟩ := hg
    refine FCall.known fun hk => ?_
    obtain ⟨n0, k0⟩ := known_sli hk
    obtain ⟨n1, k1⟩ := known_int k0
    exact h _ _ n0 n1 (ho _ (List.mem_singleton.2 rfl))
  · simp at hg
def gV_S (A : Ar) (f0 : Int → LI) : List AV → Option (AV × Ob) := fun l => match normL A l with | [.int .u64 x0] => some (.sli .u32 (f0 x0), []) | _ => none
theorem holds_V_S {f0 : Int → LI} (h : ∀ (x0 : Int), (n0 : Rg .u64 x0) → FCall P f [.int .u64 x0] (.sli .u32 (f0 x0))) : Holds P f (gV_S stdAr f0) := by
  refine Holds.norm (g := fun l => match l with | [.int .u64 x0] => some (.sli .u32 (f0 x0), []) | _ => none) ?_
  intro args r ob hg ho
  dsimp only at hg
  split at hg
  · simp only [Option.some.injEq, Prod.mk.injEq] at hg; obtain ⟨rfl, rfl⟩ := hg
    refine FCall.known fun hk => ?_
    obtain ⟨n0, k0⟩ := known_int hk
    exact h _ n0
  · simp at hg
def gB_Sp (f0 : LI → LI) (p : LI → Bool) : List AV → Option (AV × Ob) := fun l => match l with | [.sli .u8 x0] => some (.sli .u32 (f0 x0), [(p x0, true)]) | _ => none
theorem holds_B_Sp {f0 : LI → LI} {p : LI → Bool} (h : ∀ (x0 : LI), (n0 : Nm .u8 x0) → p x0 = true → FCall P f [.sli .u8 x0] (.sli .u32 (f0 x0))) : Holds P f (gB_Sp f0 p) := by
  intro args r ob hg ho
  unfold gB_Sp at hg
  split at hg
  · simp only [Option.some.injEq, Prod.mk.injEq] at hg; obtain ⟨rfl, rfl⟩ := hg
    refine FCall.known fun hk => ?_
    obtain ⟨n0, k0⟩ := known_sli hk
    exact h _ n0 (ho _ (List.mem_singleton.2 rfl))
  · simp at hg
def gS_Ip (f0 : LI → Int) (p : LI → Bool) : List AV → Option (AV × Ob) := fun l => match l with | [.sli .u32 x0] => some (.int .i64 (f0 x0), [(p x0, true)]) | _ => none
theorem holds_S_Ip {f0 : LI → Int} {p : LI → Bool} (h : ∀ (x0 : LI), (n0 : Nm .u32 x0) → p x0 = true → FCall P f [.sli .u32 x0] (.int .i64 (f0 x0))) : Holds P f (gS_Ip f0 p) := by
  intro args r ob hg ho
  unfold gS_Ip at hg
  split at hg
  · simp only [Option.some.injEq, Prod.mk.injEq] at hg; obtain ⟨rfl, rfl⟩ := hg
    refine FCall.known fun hk => ?_
    obtain ⟨n0, k0⟩ := known_sli hk
    exact h _ n0 (ho _ (List.mem_singleton.2 rfl))
  · simp at hg
def gSI_I (A : Ar) (f0 : LI → Int → Int) : List AV → Option (AV × Ob) := fun l => match normL A l with | [.sli .u32 x0, .int .i64 x1] => some (.int .i64 (f0 x0 x1), []) | _ => none
theorem holds_SI_I {f0 : LI → Int → Int} (h : ∀ (x0 : LI) (x1 : Int), (n0 : Nm .u32 x0) → (n1 : Rg .i64 x1) → FCall P f [.sli .u32 x0, .int .i64 x1] (.int .i64 (f0 x0 x1))) : Holds P f (gSI_I stdAr f0) := by
  refine Holds.norm (g := fun l => match l with | [.sli .u32 x0, .int .i64 x1] => some (.int .i64 (f0 x0 x1), []) | _ => none) ?_
  intro args r ob hg ho
  dsimp only at hg
  split at hg
  · simp only [Option.some.injEq, Prod.mk.injEq] at hg; obtain ⟨rfl, rfl⟩ := hg
    refine FCall.known fun hk => ?_
    obtain ⟨n0, k0⟩ := known_sli hk
    obtain ⟨n1, k1⟩ := known_int k0
    exact h _ _ n0 n1
  · simp at hg
def gSI_Bp (A : Ar) (f0 : LI → Int → LI) (p : LI → Int → Bool) : List AV → Option (AV × Ob) := fun l => match normL A l with | [.sli .u32 x0, .int .i64 x1] => some (.sli .u8 (f0 x0 x1), [(p x0 x1, true)]) | _ => none
theorem holds_SI_Bp {f0 : LI → Int → LI} {p : LI → Int → Bool} (h : ∀ (x0 : LI) (x1 : Int), (n0 : Nm .u32 x0) → (n1 : Rg .i64 x1) → p x0 x1 = true → FCall P f [.sli .u32 x0, .int .i64 x1] (.sli .u8 (f0 x0 x1))) : Holds P f (gSI_Bp stdAr f0 p) := by
  refine Holds.norm (g := fun l => match l with | [.sli .u32 x0, .int .i64 x1] => some (.sli .u8 (f0 x0 x1), [(p x0 x1, true)]) | _ => none) ?_
  intro args r ob hg ho
  dsimp only at hg
  split at hg
  · simp only [Option.some.injEq, Prod.mk.injEq] at hg; obtain ⟨rfl, rfl⟩ := hg
    refine FCall.known fun hk => ?_
    obtain ⟨n0, k0⟩ := known_sli hk
    obtain ⟨n1, k1⟩ := known_int k0
    exact h _ _ n0 n1 (ho _ (List.mem_singleton.2 rfl))
  · simp at hg
def gS_Bp (f0 : LI → LI) (p : LI → Bool) : List AV → Option (AV × Ob) := fun l => match l with | [.sli .u32 x0] => some (.sli .u8 (f0 x0), [(p x0, true)]) | _ => none
theorem holds_S_Bp {f0 : LI → LI} {p : LI → Bool} (h : ∀ (x0 : LI), (n0 : Nm .u32 x0) → p x0 = true → FCall P f [.sli .u32 x0] (.sli .u8 (f0 x0))) : Holds P f (gS_Bp f0 p) := by
  intro args r ob hg ho
  unfold gS_Bp at hg
  split at hg
  · simp only [Option.some.injEq, Prod.mk.injEq] at hg; obtain ⟨rfl, rfl⟩ := hg
    refine FCall.known fun hk => ?_
    obtain ⟨n0, k0⟩ := known_sli hk
    exact h _ n0 (ho _ (List.mem_singleton.2 rfl))
  · simp at hg
def gSI_BIp (A : Ar) (f0 : LI → Int → LI) (f1 : LI → Int → Int) (p : LI → Int → Bool) : List AV → Option (AV × Ob) := fun l => match normL A l with | [.sli .u32 x0, .int .i64 x1] => some (.tup [.sli .u8 (f0 x0 x1), .int .i64 (f1 x0 x1)], [(p x0 x1, true)]) | _ => none
theorem holds_SI_BIp {f0 : LI → Int → LI} {f1 : LI → Int → Int} {p : LI → Int → Bool} (h : ∀ (x0 : LI) (x1 : Int), (n0 : Nm .u32 x0) → (n1 : Rg .i64 x1) → p x0 x1 = true → FCall P f [.sli .u32 x0, .int .i64 x1] (.tup [.sli .u8 (f0 x0 x1), .int .i64 (f1 x0 x1)])) : Holds P f (gSI_BIp stdAr f0 f1 p) := by
  refine Holds.norm (g := fun l => match l with | [.sli .u32 x0, .int .i64 x1] => some (.tup [.sli .u8 (f0 x0 x1), .int .i64 (f1 x0 x1)], [(p x0 x1, true)]) | _ => none) ?_
  intro args r ob hg ho
  dsimp only at hg
  split at hg
  · simp only [Option.some.injEq, Prod.mk.injEq] at hg; obtain ⟨rfl, rfl⟩ := hg
    refine FCall.known fun hk => ?_
    obtain ⟨n0, k0⟩ := known_sli hk
    obtain ⟨n1, k1⟩ := known_int k0
    exact h _ _ n0 n1 (ho _ (List.mem_singleton.2 rfl))
  · simp at hg
def gSS_Ip (f0 : LI → LI → Int) (p : LI → LI → Bool) : List AV → Option (AV × Ob) := fun l => match l with | [.sli .u32 x0, .sli .u32 x1] => some (.int .i64 (f0 x0 x1), [(p x0 x1, true)]) | _ => none
theorem holds_SS_Ip {f0 : LI → LI → Int} {p : LI → LI → Bool} (h : ∀ (x0 : LI) (x1 : LI), (n0 : Nm .u32 x0) → (n1 : Nm .u32 x1) → p x0 x1 = true → FCall P f [.sli .u32 x0, .sli .u32 x1] (.int .i64 (f0 x0 x1))) : Holds P f (gSS_Ip f0 p) := by
  intro args r ob hg ho
  unfold gSS_Ip at hg
  split at hg
  · simp only [Option.some.injEq, Prod.mk.injEq] at hg; obtain ⟨rfl, rfl⟩ := hg
    refine FCall.known fun hk => ?_
    obtain ⟨n0, k0⟩ := known_sli hk
    obtain ⟨n1, k1⟩ := known_sli k0
    exact h _ _ n0 n1 (ho _ (List.mem_singleton.2 rfl))
  · simp at hg
def gSS_Sp (f0 : LI → LI → LI) (p : LI → LI → Bool) : List AV → Option (AV × Ob) := fun l => match l with | [.sli .u32 x0, .sli .u32 x1] => some (.sli .u32 (f0 x0 x1), [(p x0 x1, true)]) | _ => none
theorem holds_SS_Sp {f0 : LI → LI → LI} {p : LI → LI → Bool} (h : ∀ (x0 : LI) (x1 : LI), (n0 : Nm .u32 x0) → (n1 : Nm .u32 x1) → p x0 x1 = true → FCall P f [.sli .u32 x0, .sli .u32 x1] (.sli .u32 (f0 x0 x1))) : Holds P f (gSS_Sp f0 p) := by
  intro args r ob hg ho
  unfold gSS_Sp at hg
  split at hg
  · simp only [Option.some.injEq, Prod.mk.injEq] at hg; obtain ⟨rfl, rfl⟩ := hg
    refine FCall.known fun hk => ?_
    obtain ⟨n0, k0⟩ := known_sli hk
    obtain ⟨n1, k1⟩ := known_sli k0
    exact h _ _ n0 n1 (ho _ (List.mem_singleton.2 rfl))
  · simp at hg
def gSS_SIp (f0 : LI → LI → LI) (f1 : LI → LI → Int) (p : LI → LI → Bool) : List AV → Option (AV × Ob) := fun l => match l with | [.sli .u32 x0, .sli .u32 x1] => some (.tup [.sli .u32 (f0 x0 x1), .int .i64 (f1 x0 x1)], [(p x0 x1, true)]) | _ => none
theorem holds_SS_SIp {f0 : LI → LI → LI} {f1 : LI → LI → Int} {p : LI → LI → Bool} (h : ∀ (x0 : LI) (x1 : LI), (n0 : Nm .u32 x0) → (n1 : Nm .u32 x1) → p x0 x1 = true → FCall P f [.sli .u32 x0, .sli .u32 x1] (.tup [.sli .u32 (f0 x0 x1), .int .i64 (f1 x0 x1)])) : Holds P f (gSS_SIp f0 f1 p) := by
  intro args r ob hg ho
  unfold gSS_SIp at hg
  split at hg
  · simp only [Option.some.injEq, Prod.mk.injEq] at hg; obtain ⟨rfl, rfl⟩ := hg
    refine FCall.known fun hk => ?_
    obtain ⟨n0, k0⟩ := known_sli hk
    obtain ⟨n1, k1⟩ := known_sli k0
    exact h _ _ n0 n1 (ho _ (List.mem_singleton.2 rfl))
  · simp at hg
def gSI_SIp (A : Ar) (f0 : LI → Int → LI) (f1 : LI → Int → Int) (p : LI → Int → Bool) : List AV → Option (AV × Ob) := fun l => match normL A l with | [.sli .u32 x0, .int .i64 x1] => some (.tup [.sli .u32 (f0 x0 x1), .int .i64 (f1 x0 x1)], [(p x0 x1, true)]) | _ => none
theorem holds_SI_SIp {f0 : LI → Int → LI} {f1 : LI → Int → Int} {p : LI → Int → Bool} (h : ∀ (x0 : LI) (x1 : Int), (n0 : Nm .u32 x0) → (n1 : Rg .i64 x1) → p x0 x1 = true → FCall P f [.sli .u32 x0, .int .i64 x1] (.tup [.sli .u32 (f0 x0 x1), .int .i64 (f1 x0 x1)])) : Holds P f (gSI_SIp stdAr f0 f1 p) := by
  refine Holds.norm (g := fun l => match l with | [.sli .u32 x0, .int .i64 x1] => some (.tup [.sli .u32 (f0 x0 x1), .int .i64 (f1 x0 x1)], [(p x0 x1, true)]) | _ => none) ?_
  intro args r ob hg ho
  dsimp only at hg
  split at hg
  · simp only [Option.some.injEq, Prod.mk.injEq] at hg; obtain ⟨rfl, rfl⟩ := hg
    refine FCall.known fun hk => ?_
    obtain ⟨n0, k0⟩ := known_sli hk
    obtain ⟨n1, k1⟩ := known_int k0
    exact h _ _ n0 n1 (ho _ (List.mem_singleton.2 rfl))
  · simp at hg
def gSI_Sp (A : Ar) (f0 : LI → Int → LI) (p : LI → Int → Bool) : List AV → Option (AV × Ob) := fun l => match normL A l with | [.sli .u32 x0, .int .i64 x1] => some (.sli .u32 (f0 x0 x1), [(p x0 x1, true)]) | _ => none
theorem holds_SI_Sp {f0 : LI → Int → LI} {p : LI → Int → Bool} (h : ∀ (x0 : LI) (x1 : Int), (n0 : Nm .u32 x0) → (n1 : Rg .i64 x1) → p x0 x1 = true → FCall P f [.sli .u32 x0, .int .i64 x1] (.sli .u32 (f0 x0 x1))) : Holds P f (gSI_Sp stdAr f0 p) := by
  refine Holds.norm (g := fun l => match l with | [.sli .u32 x0, .int .i64 x1] => some (.sli .u32 (f0 x0 x1), [(p x0 x1, true)]) | _ => none) ?_
  intro args r ob hg ho
  dsimp only at hg
  split at hg
  · simp only [Option.some.injEq, Prod.mk.injEq] at hg; obtain ⟨rfl, rfl⟩ := hg
    refine FCall.known fun hk => ?_
    obtain ⟨n0, k0⟩ := known_sli hk
    obtain ⟨n1, k1⟩ := known_int k0
    exact h _ _ n0 n1 (ho _ (List.mem_singleton.2 rfl))
  · simp at hg
def gSU_SSp (A : Ar) (f0 : LI → Int → LI) (f1 : LI → Int → LI) (p : LI → Int → Bool) : List AV → Option (AV × Ob) := fun l => match normL A l with | [.sli .u32 x0, .int .u32 x1] => some (.tup [.sli .u32 (f0 x0 x1), .sli .u32 (f1 x0 x1)], [(p x0 x1, true)]) | _ => none
theorem holds_SU_SSp {f0 : LI → Int → LI} {f1 : LI → Int → LI} {p : LI → Int → Bool} (h : ∀ (x0 : LI) (x1 : Int), (n0 : Nm .u32 x0) → (n1 : Rg .u32 x1) → p x0 x1 = true → FCall P f [.sli .u32 x0, .int .u32 x1] (.tup [.sli .u32 (f0 x0 x1), .sli .u32 (f1 x0 x1)])) : Holds P f (gSU_SSp stdAr f0 f1 p) := by
  refine Holds.norm (g := fun l => match l with | [.sli .u32 x0, .int .u32 x1] => some (.tup [.sli .u32 (f0 x0 x1), .sli .u32 (f1 x0 x1)], [(p x0 x1, true)]) | _ => none) ?_
  intro args r ob hg ho
  dsimp only at hg
  split at hg
  · simp only [Option.some.injEq, Prod.mk.injEq] at hg; obtain ⟨rfl, rfl⟩ := hg
    refine FCall.known fun hk => ?_
    obtain ⟨n0, k0⟩ := known_sli hk
    obtain ⟨n1, k1⟩ := known_int k0
    exact h _ _ n0 n1 (ho _ (List.mem_singleton.2 rfl))
  · simp at hg
def gUUUUU_Vp (A : Ar) (f0 : Int → Int → Int → Int → Int → Int) (p : Int → Int → Int → Int → Int → Bool) : List AV → Option (AV × Ob) := fun l => match normL A l with | [.int .u32 x0, .int .u32 x1, .int .u32 x2, .int .u32 x3, .int .u32 x4] => some (.int .u64 (f0 x0 x1 x2 x3 x4), [(p x0 x1 x2 x3 x4, true)]) | _ => none
theorem holds_UUUUU_Vp {f0 : Int → Int → Int → Int → Int → Int} {p : Int → Int → Int → Int → Int → Bool} (h : ∀ (x0 : Int) (x1 : Int) (x2 : Int) (x3 : Int) (x4 : Int), (n0 : Rg .u32 x0) → (n1 : Rg .u32 x1) → (n2 : Rg .u32 x2) → (n3 : Rg .u32 x3) → (n4 : Rg .u32 x4) → p x0 x1 x2 x3 x4 = true → FCall P f [.int .u32 x0, .int .u32 x1, .int .u32 x2, .int .u32 x3, .int .u32 x4] (.int .u64 (f0 x0 x1 x2 x3 x4))) : Holds P f (gUUUUU_Vp stdAr f0 p) := by
  refine Holds.norm (g := fun l => match l with | [.int .u32 x0, .int .u32 x1, .int .u32 x2, .int .u32 x3, .int .u32 x4] => some (.int .u64 (f0 x0 x1 x2 x3 x4), [(p x0 x1 x2 x3 x4, true)]) | _ => none) ?_
  intro args r ob hg ho
  dsimp only at hg
  split at hg
  · simp only [Option.some.injEq, Prod.mk.injEq] at hg; obtain ⟨rfl, rfl⟩ := hg
    refine FCall.known fun hk => ?_
    obtain ⟨n0, k0⟩ := known_int hk
    obtain ⟨n1, k1⟩ := known_int k0
    obtain ⟨n2, k2⟩ := known_int k1
    obtain ⟨n3, k3⟩ := known_int k2
    obtain ⟨n4, k4⟩ := known_int k3
    exact h _ _ _ _ _ n0 n1 n2 n3 n4 (ho _ (List.mem_singleton.2 rfl))
  · simp at hg
def gSS_SSIp (f0 : LI → LI → LI) (f1 : LI → LI → LI) (f2 : LI → LI → Int) (p : LI → LI → Bool) : List AV → Option (AV × Ob) := fun l => match l with | [.sli .u32 x0, .sli .u32 x1] => some (.tup [.sli .u32 (f0 x0 x1), .sli .u32 (f1 x0 x1), .int .i64 (f2 x0 x1)], [(p x0 x1, true)]) | _ => none
theorem holds_SS_SSIp {f0 : LI → LI → LI} {f1 : LI → LI → LI} {f2 : LI → LI → Int} {p : LI → LI → Bool} (h : ∀ (x0 : LI) (x1 : LI), (n0 : Nm .u32 x0) → (n1 : Nm .u32 x1) → p x0 x1 = true → FCall P f [.sli .u32 x0, .sli .u32 x1] (.tup [.sli .u32 (f0 x0 x1), .sli .u32 (f1 x0 x1), .int .i64 (f2 x0 x1)])) : Holds P f (gSS_SSIp f0 f1 f2 p) := by
  intro args r ob hg ho
  unfold gSS_SSIp at hg
  split at hg
  · simp only [Option.some.injEq, Prod.mk.injEq] at hg; obtain ⟨rfl, rfl⟩ := hg
    refine FCall.known fun hk => ?_
    obtain ⟨n0, k0⟩ := known_sli hk
    obtain ⟨n1, k1⟩ := known_sli k0
    exact h _ _ n0 n1 (ho _ (List.mem_singleton.2 rfl))
  · simp at hg
def gU_I (A : Ar) (f0 : Int → Int) : List AV → Option (AV × Ob) := fun l => match normL A l with | [.int .u32 x0] => some (.int .i64 (f0 x0), []) | _ => none
theorem holds_U_I {f0 : Int → Int} (h : ∀ (x0 : Int), (n0 : Rg .u32 x0) → FCall P f [.int .u32 x0] (.int .i64 (f0 x0))) : Holds P f (gU_I stdAr f0) := by
  refine Holds.norm (g := fun l => match l with | [.int .u32 x0] => some (.int .i64 (f0 x0), []) | _ => none) ?_
  intro args r ob hg ho
  dsimp only at hg
  split at hg
  · simp only [Option.some.injEq, Prod.mk.injEq] at hg; obtain ⟨rfl, rfl⟩ := hg
    refine FCall.known fun hk => ?_
    obtain ⟨n0, k0⟩ := known_int hk
    exact h _ n0
  · simp at hg
def gUUU_UUp (A : Ar) (f0 : Int → Int → Int → Int) (f1 : Int → Int → Int → Int) (p : Int → Int → Int → Bool) : List AV → Option (AV × Ob) := fun l => match normL A l with | [.int .u32 x0, .int .u32 x1, .int .u32 x2] => some (.tup [.int .u32 (f0 x0 x1 x2), .int .u32 (f1 x0 x1 x2)], [(p x0 x1 x2, true)]) | _ => none
theorem holds_UUU_UUp {f0 : Int → Int → Int → Int} {f1 : Int → Int → Int → Int} {p : Int → Int → Int → Bool} (h : ∀ (x0 : Int) (x1 : Int) (x2 : Int), (n0 : Rg .u32 x0) → (n1 : Rg .u32 x1) → (n2 : Rg .u32 x2) → p x0 x1 x2 = true → FCall P f [.int .u32 x0, .int .u32 x1, .int .u32 x2] (.tup [.int .u32 (f0 x0 x1 x2), .int .u32 (f1 x0 x1 x2)])) : Holds P f (gUUU_UUp stdAr f0 f1 p) := by
  refine Holds.norm (g := fun l => match l with | [.int .u32 x0, .int .u32 x1, .int .u32 x2] => some (.tup [.int .u32 (f0 x0 x1 x2), .int .u32 (f1 x0 x1 x2)], [(p x0 x1 x2, true)]) | _ => none) ?_
  intro args r ob hg ho
  dsimp only at hg
  split at hg
  · simp only [Option.some.injEq, Prod.mk.injEq] at hg; obtain ⟨rfl, rfl⟩ := hg
    refine FCall.known fun hk => ?_
    obtain ⟨n0, k0⟩ := known_int hk
    obtain ⟨n1, k1⟩ := known_int k0
    obtain ⟨n2, k2⟩ := known_int k1
    exact h _ _ _ n0 n1 n2 (ho _ (List.mem_singleton.2 rfl))
  · simp at hg
def gD_D (f0 : LI → LI) : List AV → Option (AV × Ob) := fun l => match l with | [.sli .u64 x0] => some (.sli .u64 (f0 x0), []) | _ => none
theorem holds_D_D {f0 : LI → LI} (h : ∀ (x0 : LI), (n0 : Nm .u64 x0) → FCall P f [.sli .u64 x0] (.sli .u64 (f0 x0))) : Holds P f (gD_D f0) := by
  intro args r ob hg ho
  unfold gD_D at hg
  split at hg
  · simp only [Option.some.injEq, Prod.mk.injEq] at hg; obtain ⟨rfl, rfl⟩ := hg
    refine FCall.known fun hk => ?_
    obtain ⟨n0, k0⟩ := known_sli hk
    exact h _ n0
  · simp at hg
def gS_Dp (f0 : LI → LI) (p : LI → Bool) : List AV → Option (AV × Ob) := fun l => match l with | [.sli .u32 x0] => some (.sli .u64 (f0 x0), [(p x0, true)]) | _ => none
theorem holds_S_Dp {f0 : LI → LI} {p : LI → Bool} (h : ∀ (x0 : LI), (n0 : Nm .u32 x0) → p x0 = true → FCall P f [.sli .u32 x0] (.sli .u64 (f0 x0))) : Holds P f (gS_Dp f0 p) := by
  intro args r ob hg ho
  unfold gS_Dp at hg
  split at hg
  · simp only [Option.some.injEq, Prod.mk.injEq] at hg; obtain ⟨rfl, rfl⟩ := hg
    refine FCall.known fun hk => ?_
    obtain ⟨n0, k0⟩ := known_sli hk
    exact h _ n0 (ho _ (List.mem_singleton.2 rfl))
  · simp at hg
def gD_Sp (f0 : LI → LI) (p : LI → Bool) : List AV → Option (AV × Ob) := fun l => match l with | [.sli .u64 x0] => some (.sli .u32 (f0 x0), [(p x0, true)]) | _ => none
theorem holds_D_Sp {f0 : LI → LI} {p : LI → Bool} (h : ∀ (x0 : LI), (n0 : Nm .u64 x0) → p x0 = true → FCall P f [.sli .u64 x0] (.sli .u32 (f0 x0))) : Holds P f (gD_Sp f0 p) := by
  intro args r ob hg ho
  unfold gD_Sp at hg
  split at hg
  · simp only [Option.some.injEq, Prod.mk.injEq] at hg; obtain ⟨rfl, rfl⟩ := hg
    refine FCall.known fun hk => ?_
    obtain ⟨n0, k0⟩ := known_sli hk
    exact h _ n0 (ho _ (List.mem_singleton.2 rfl))
  · simp at hg
def gDI_Vp (A : Ar) (f0 : LI → Int → Int) (p : LI → Int → Bool) : List AV → Option (AV × Ob) := fun l => match normL A l with | [.sli .u64 x0, .int .i64 x1] => some (.int .u64 (f0 x0 x1), [(p x0 x1, true)]) | _ => none
theorem holds_DI_Vp {f0 : LI → Int → Int} {p : LI → Int → Bool} (h : ∀ (x0 : LI) (x1 : Int), (n0 : Nm .u64 x0) → (n1 : Rg .i64 x1) → p x0 x1 = true → FCall P f [.sli .u64 x0, .int .i64 x1] (.int .u64 (f0 x0 x1))) : Holds P f (gDI_Vp stdAr f0 p) := by
  refine Holds.norm (g := fun l => match l with | [.sli .u64 x0, .int .i64 x1] => some (.int .u64 (f0 x0 x1), [(p x0 x1, true)]) | _ => none) ?_
  intro args r ob hg ho
  dsimp only at hg
  split at hg
  · simp only [Option.some.injEq, Prod.mk.injEq] at hg; obtain ⟨rfl, rfl⟩ := hg
    refine FCall.known fun hk => ?_
    obtain ⟨n0, k0⟩ := known_sli hk
    obtain ⟨n1, k1⟩ := known_int k0
    exact h _ _ n0 n1 (ho _ (List.mem_singleton.2 rfl))
  · simp at hg
def gDI_Bp (A : Ar) (f0 : LI → Int → LI) (p : LI → Int → Bool) : List AV → Option (AV × Ob) := fun l => match normL A l with | [.sli .u64 x0, .int .i64 x1] => some (.sli .u8 (f0 x0 x1), [(p x0 x1, true)]) | _ => none
theorem holds_DI_Bp {f0 : LI → Int → LI} {p : LI → Int → Bool} (h : ∀ (x0 : LI) (x1 : Int), (n0 : Nm .u64 x0) → (n1 : Rg .i64 x1) → p x0 x1 = true → FCall P f [.sli .u64 x0, .int .i64 x1] (.sli .u8 (f0 x0 x1))) : Holds P f (gDI_Bp stdAr f0 p) := by
  refine Holds.norm (g := fun l => match l with | [.sli .u64 x0, .int .i64 x1] => some (.sli .u8 (f0 x0 x1), [(p x0 x1, true)]) | _ => none) ?_
  intro args r ob hg ho
  dsimp only at hg
  split at hg
  · simp only [Option.some.injEq, Prod.mk.injEq] at hg; obtain ⟨rfl, rfl⟩ := hg
    refine FCall.known fun hk => ?_
    obtain ⟨n0, k0⟩ := known_sli hk
    obtain ⟨n1, k1⟩ := known_int k0
    exact h _ _ n0 n1 (ho _ (List.mem_singleton.2 rfl))
  · simp at hg
def gDD_Ip (f0 : LI → LI → Int) (p : LI → LI → Bool) : List AV → Option (AV × Ob) := fun l => match l with | [.sli .u64 x0, .sli .u64 x1] => some (.int .i64 (f0 x0 x1), [(p x0 x1, true)]) | _ => none
theorem holds_DD_Ip {f0 : LI → LI → Int} {p : LI → LI → Bool} (h : ∀ (x0 : LI) (x1 : LI), (n0 : Nm .u64 x0) → (n1 : Nm .u64 x1) → p x0 x1 = true → FCall P f [.sli .u64 x0, .sli .u64 x1] (.int .i64 (f0 x0 x1))) : Holds P f (gDD_Ip f0 p) := by
  intro args r ob hg ho
  unfold gDD_Ip at hg
  split at hg
  · simp only [Option.some.injEq, Prod.mk.injEq] at hg; obtain ⟨rfl, rfl⟩ := hg
    refine FCall.known fun hk => ?_
    obtain ⟨n0, k0⟩ := known_sli hk
    obtain ⟨n1, k1⟩ := known_sli k0
    exact h _ _ n0 n1 (ho _ (List.mem_singleton.2 rfl))
  · simp at hg
def gDD_Dp (f0 : LI → LI → LI) (p : LI → LI → Bool) : List AV → Option (AV × Ob) := fun l => match l with | [.sli .u64 x0, .sli .u64 x1] => some (.sli .u64 (f0 x0 x1), [(p x0 x1, true)]) | _ => none
theorem holds_DD_Dp {f0 : LI → LI → LI} {p : LI → LI → Bool} (h : ∀ (x0 : LI) (x1 : LI), (n0 : Nm .u64 x0) → (n1 : Nm .u64 x1) → p x0 x1 = true → FCall P f [.sli .u64 x0, .sli .u64 x1] (.sli .u64 (f0 x0 x1))) : Holds P f (gDD_Dp f0 p) := by
  intro args r ob hg ho
  unfold gDD_Dp at hg
  split at hg
  · simp only [Option.some.injEq, Prod.mk.injEq] at hg; obtain ⟨rfl, rfl⟩ := hg
    refine FCall.known fun hk => ?_
    obtain ⟨n0, k0⟩ := known_sli hk
    obtain ⟨n1, k1⟩ := known_sli k0
    exact h _ _ n0 n1 (ho _ (List.mem_singleton.2 rfl))
  · simp at hg
def gDV_Dp (A : Ar) (f0 : LI → Int → LI) (p : LI → Int → Bool) : List AV → Option (AV × Ob) := fun l => match normL A l with | [.sli .u64 x0, .int .u64 x1] => some (.sli .u64 (f0 x0 x1), [(p x0 x1, true)]) | _ => none
theorem holds_DV_Dp {f0 : LI → Int → LI} {p : LI → Int → Bool} (h : ∀ (x0 : LI) (x1 : Int), (n0 : Nm .u64 x0) → (n1 : Rg .u64 x1) → p x0 x1 = true → FCall P f [.sli .u64 x0, .int .u64 x1] (.sli .u64 (f0 x0 x1))) : Holds P f (gDV_Dp stdAr f0 p) := by
  refine Holds.norm (g := fun l => match l with | [.sli .u64 x0, .int .u64 x1] => some (.sli .u64 (f0 x0 x1), [(p x0 x1, true)]) | _ => none) ?_
  intro args r ob hg ho
  dsimp only at hg
  split at hg
  · simp only [Option.some.injEq, Prod.mk.injEq] at hg; obtain ⟨rfl, rfl⟩ := hg
    refine FCall.known fun hk => ?_
    obtain ⟨n0, k0⟩ := known_sli hk
    obtain ⟨n1, k1⟩ := known_int k0
    exact h _ _ n0 n1 (ho _ (List.mem_singleton.2 rfl))
  · simp at hg
def gDD_Vp (f0 : LI → LI → Int) (p : LI → LI → Bool) : List AV → Option (AV × Ob) := fun l => match l with | [.sli .u64 x0, .sli .u64 x1] => some (.int .u64 (f0 x0 x1), [(p x0 x1, true)]) | _ => none
theorem holds_DD_Vp {f0 : LI → LI → Int} {p : LI → LI → Bool} (h : ∀ (x0 : LI) (x1 : LI), (n0 : Nm .u64 x0) → (n1 : Nm .u64 x1) → p x0 x1 = true → FCall P f [.sli .u64 x0, .sli .u64 x1] (.int .u64 (f0 x0 x1))) : Holds P f (gDD_Vp f0 p) := by
  intro args r ob hg ho
  unfold gDD_Vp at hg
  split at hg
  · simp only [Option.some.injEq, Prod.mk.injEq] at hg; obtain ⟨rfl, rfl⟩ := hg
    refine FCall.known fun hk => ?_
    obtain ⟨n0, k0⟩ := known_sli hk
    obtain ⟨n1, k1⟩ := known_sli k0
    exact h _ _ n0 n1 (ho _ (List.mem_singleton.2 rfl))
  · simp at hg
def gSS_T (f0 : LI → LI → Bool) : List AV → Option (AV × Ob) := fun l => match l with | [.sli .u32 x0, .sli .u32 x1] => some (.bool (f0 x0 x1), []) | _ => none
theorem holds_SS_T {f0 : LI → LI → Bool} (h : ∀ (x0 : LI) (x1 : LI), (n0 : Nm .u32 x0) → (n1 : Nm .u32 x1) → FCall P f [.sli .u32 x0, .sli .u32 x1] (.bool (f0 x0 x1))) : Holds P f (gSS_T f0) := by
  intro args r ob hg ho
  unfold gSS_T at hg
  split at hg
  · simp only [Option.some.injEq, Prod.mk.injEq] at hg; obtain ⟨rfl, rfl⟩ := hg
    refine FCall.known fun hk => ?_
    obtain ⟨n0, k0⟩ := known_sli hk
    obtain ⟨n1, k1⟩ := known_sli k0
    exact h _ _ n0 n1
  · simp at hg
def gV_V (A : Ar) (f0 : Int → Int) : List AV → Option (AV × Ob) := fun l => match normL A l with | [.int .u64 x0] => some (.int .u64 (f0 x0), []) | _ => none
theorem holds_V_V {f0 : Int → Int} (h : ∀ (x0 : Int), (n0 : Rg .u64 x0) → FCall P f [.int .u64 x0] (.int .u64 (f0 x0))) : Holds P f (gV_V stdAr f0) := by
  refine Holds.norm (g := fun l => match l with | [.int .u64 x0] => some (.int .u64 (f0 x0), []) | _ => none) ?_
  intro args r ob hg ho
  dsimp only at hg
  split at hg
  · simp only [Option.some.injEq, Prod.mk.injEq] at hg; obtain ⟨rfl, rfl⟩ := hg
    refine FCall.known fun hk => ?_
    obtain ⟨n0, k0⟩ := known_int hk
    exact h _ n0
  · simp at hg
def gS_T (f0 : LI → Bool) : List AV → Option (AV × Ob) := fun l => match l with | [.sli .u32 x0] => some (.bool (f0 x0), []) | _ => none
theorem holds_S_T {f0 : LI → Bool} (h : ∀ (x0 : LI), (n0 : Nm .u32 x0) → FCall P f [.sli .u32 x0] (.bool (f0 x0))) : Holds P f (gS_T f0) := by
  intro args r ob hg ho
  unfold gS_T at hg
  split at hg
  · simp only [Option.some.injEq, Prod.mk.injEq] at hg; obtain ⟨rfl, rfl⟩ := hg
    refine FCall.known fun hk => ?_
    obtain ⟨n0, k0⟩ := known_sli hk
    exact h _ n0
  · simp at hg
def g_S (f0 : LI) : List AV → Option (AV × Ob) := fun l => match l with | [] => some (.sli .u32 f0, []) | _ => none
theorem holds__S {f0 : LI} (h :  FCall P f [] (.sli .u32 f0)) : Holds P f (g_S f0) := by
  intro args r ob hg ho
  unfold g_S at hg
  split at hg
  · simp only [Option.some.injEq, Prod.mk.injEq] at hg; obtain ⟨rfl, rfl⟩ := hg
    refine FCall.known fun hk => ?_
    exact h 
  · simp at hg
def gSSS_Sp (f0 : LI → LI → LI → LI) (p : LI → LI → LI → Bool) : List AV → Option (AV × Ob) := fun l => match l with | [.sli .u32 x0, .sli .u32 x1, .sli .u32 x2] => some (.sli .u32 (f0 x0 x1 x2), [(p x0 x1 x2, true)]) | _ => none
theorem holds_SSS_Sp {f0 : LI → LI → LI → LI} {p : LI → LI → LI → Bool} (h : ∀ (x0 : LI) (x1 : LI) (x2 : LI), (n0 : Nm .u32 x0) → (n1 : Nm .u32 x1) → (n2 : Nm .u32 x2) → p x0 x1 x2 = true → FCall P f [.sli .u32 x0, .sli .u32 x1, .sli .u32 x2] (.sli .u32 (f0 x0 x1 x2))) : Holds P f (gSSS_Sp f0 p) := by
  intro args r ob hg ho
  unfold gSSS_Sp at hg
  split at hg
  · simp only [Option.some.injEq, Prod.mk.injEq] at hg; obtain ⟨rfl, rfl⟩ := hg
    refine FCall.known fun hk => ?_
    obtain ⟨n0, k0⟩ := known_sli hk
    obtain ⟨n1, k1⟩ := known_sli k0
    obtain ⟨n2, k2⟩ := known_sli k1
    exact h _ _ _ n0 n1 n2 (ho _ (List.mem_singleton.2 rfl))
  · simp at hg
def gSSS_SIp (f0 : LI → LI → LI → LI) (f1 : LI → LI → LI → Int) (p : LI → LI → LI → Bool) : List AV → Option (AV × Ob) := fun l => match l with | [.sli .u32 x0, .sli .u32 x1, .sli .u32 x2] => some (.tup [.sli .u32 (f0 x0 x1 x2), .int .i64 (f1 x0 x1 x2)], [(p x0 x1 x2, true)]) | _ => none
theorem holds_SSS_SIp {f0 : LI → LI → LI → LI} {f1 : LI → LI → LI → Int} {p : LI → LI → LI → Bool} (h : ∀ (x0 : LI) (x1 : LI) (x2 : LI), (n0 : Nm .u32 x0) → (n1 : Nm .u32 x1) → (n2 : Nm .u32 x2) → p x0 x1 x2 = true → FCall P f [.sli .u32 x0, .sli .u32 x1, .sli .u32 x2] (.tup [.sli .u32 (f0 x0 x1 x2), .int .i64 (f1 x0 x1 x2)])) : Holds P f (gSSS_SIp f0 f1 p) := by
  intro args r ob hg ho
  unfold gSSS_SIp at hg
  split at hg
  · simp only [Option.some.injEq, Prod.mk.injEq] at hg; obtain ⟨rfl, rfl⟩ := hg
    refine FCall.known fun hk => ?_
    obtain ⟨n0, k0⟩ := known_sli hk
    obtain ⟨n1, k1⟩ := known_sli k0
    obtain ⟨n2, k2⟩ := known_sli k1
    exact h _ _ _ n0 n1 n2 (ho _ (List.mem_singleton.2 rfl))
  · simp at hg
end
end Go.Proofs.SX
