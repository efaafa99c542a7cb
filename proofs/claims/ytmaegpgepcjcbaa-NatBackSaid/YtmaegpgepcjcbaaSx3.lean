/- From a body's code to what a call answers; loops by an invariant. Conditions: none. -/
import Derived.Test.YtmaegpgepcjcbaaSx2
import Derived.Sort.LoopGhostIn
import Derived.Deep.LoopGhost
import Derived.ProofKit
set_option linter.all false
namespace Go.Proofs.SX
open Go Go.RowKit
set_option linter.unusedVariables false
set_option linter.unusedSimpArgs false

/-- What is needed of the program. -/
structure COk (P : Program) (c : Cx) : Prop where
  hm : P.follows .mixedOrders = true
  hA : c.A = stdAr
  hTy : ∀ t, TyOk P t (c.T t)
  hG : GOk P c.G

/-- How a body is run: may blocks be made; in a round of a loop over an iterator; the fence's number. -/
structure Md where
  na : Bool
  rd : Option Nat
  nn : Nat
abbrev mF : Md := ⟨false, none, 9⟩
abbrev mM : Md := ⟨true, none, 9⟩

/-- From a state the code comes to a state of which `Q` holds. -/
def AWP (na : Md) (P : Program) (code : Code) (s : St) (Q : XE → St → Prop) : Prop :=
  ∀ (O : Nat → Prop) (B : Bd) (w0 : World) (R : RC) (a : Act), B.na = na.na → ConcL O B w0 s R a →
    code.wpIn (rF na.rd) na.nn P (fun e a' w' => ∃ x s' R', e = exOf x ∧ Q x s' ∧ R'.w = w' ∧ ConcL O B w0 s' R' a') a R.w

section
variable {na : Md} {P : Program} {O : Nat → Prop} {B : Bd} {w0 : World} {c : Cx} {Q : XE → St → Prop}

theorem AWP.exec (k : COk P c) (hcn : c.na = na.na) {n : Nat} {code : Code} {s : St} {ds : List Bool} {x : XE} {r' : XR} (h : xcode c n code ⟨s, ds, []⟩ = some (x, r')) (ho : Obs r'.ob) (hq : Q x r'.s) : AWP na P code s Q :=
  fun O B w0 R a hna hc => xcode_sound (hna.trans hcn.symm) k.hm k.hA k.hTy k.hG h ho (fun a' R' hc' _ => ⟨x, r'.s, R', rfl, hq, rfl, hc'⟩) R a hc (Rel.refl R)

theorem AWP.mono {code : Code} {s : St} {Q' : XE → St → Prop} (h : AWP na P code s Q) (hq : ∀ x s, Q x s → Q' x s) : AWP na P code s Q' :=
  fun O B w0 R a hna hc => wpIn_mono (h O B w0 R a hna hc) fun e a w ⟨x, s', R', h1, h2, h3⟩ => ⟨x, s', R', h1, hq _ _ h2, h3⟩

/-- What follows in a sequence. -/
def sthen (na : Md) (P : Program) (y : Code) (Q : XE → St → Prop) : XE → St → Prop
  | .normal, s => AWP na P y s Q
  | x, s => Q x s

theorem AWP.seq {x y : Code} {s : St} (h : AWP na P x s (sthen na P y Q)) : AWP na P (.seq x y) s Q := by
  intro O B w0 R a hna hc
  refine wpIn_seq (wpIn_mono (h O B w0 R a hna hc) ?_)
  rintro e a' w' ⟨z, s', R', rfl, hq, rfl, hc'⟩
  cases z with
  | normal => exact hq O B w0 R' a' hna hc'
  | exit id => exact ⟨_, _, _, rfl, hq, rfl, hc'⟩
  | ret => exact ⟨_, _, _, rfl, hq, rfl, hc'⟩

def sblock (id : Nat) (Q : XE → St → Prop) : XE → St → Prop
  | .exit id', s => if id' = id then Q .normal s else Q (.exit id') s
  | x, s => Q x s

theorem AWP.block {id : Nat} {x : Code} {s : St} (h : AWP na P x s (sblock id Q)) : AWP na P (.block id x) s Q := by
  intro O B w0 R a hna hc
  refine wpIn_block (wpIn_mono (h O B w0 R a hna hc) ?_)
  rintro e a' w' ⟨z, s', R', rfl, hq, rfl, hc'⟩
  cases z with
  | normal => exact ⟨_, _, _, rfl, hq, rfl, hc'⟩
  | exit id' =>
    show if id' = id then _ else _
    simp only [sblock] at hq
    split at hq
    · rename_i hid; rw [if_pos hid]; exact ⟨_, _, _, rfl, hq, rfl, hc'⟩
    · rename_i hid; rw [if_neg hid]; exact ⟨_, _, _, rfl, hq, rfl, hc'⟩
  | ret => exact ⟨_, _, _, rfl, hq, rfl, hc'⟩

theorem AWP.cond {y : Operand} {x1 x2 : Code} {s : St} {b : Bool} (hb : evF (nth s.fr) y = .bool b ∨ evF (nth s.fr) y = .lb b) (h1 : b = true → AWP na P x1 s Q) (h2 : b = false → AWP na P x2 s Q) : AWP na P (.cond y x1 x2) s Q := by
  intro O B w0 R a hna hc
  have hv := hc.c.ev y
  have hv' : a.eval y = .bool b := by rcases hb with h | h <;> rw [h] at hv <;> exact hv
  exact wpIn_cond_split hv' (fun h => h1 h O B w0 R a hna hc) (fun h => h2 h O B w0 R a hna hc)

/-! ### Less is known -/
/-- Names that a value speaks of. -/
def nmsIn : AV → List Nat
  | .ptr nm _ | .pti nm _ _ | .osl nm _ _ | .pta nm _ _ => [nm]
  | .agg l => nmsOf l
  | .tup l => nms2 l
  | _ => []
  where nms2 : List AV → List Nat
  | [] => []
  | .agg l :: m => nmsOf l ++ nms2 m
  | x :: m => nmOf x ++ nms2 m
def allB (k : Nat) : List Nat → Bool
  | [] => true
  | x :: l => Bool.and (leN (x + 1) k) (allB k l)
def frB (k : Nat) : List AV → Bool
  | [] => true
  | x :: l => Bool.and (allB k (nmsIn x)) (frB k l)
def blB (k : Nat) : Blk → Bool
  | .cells l => allB k (nmsOf l)
  | _ => true
def hpB (k : Nat) : List Blk → Bool
  | [] => true
  | x :: l => Bool.and (blB k x) (hpB k l)

/-- A value says less than another one. -/
inductive AvLe : AV → AV → Prop
  | any (x : AV) : AvLe x .any
  | same (x : AV) : AvLe x x
  | lit (k : IntKind) (n : Nat) : AvLe (.lit k n) (.int k n)
  | lb (b : Bool) : AvLe (.lb b) (.bool b)
/-- `s'` says less than `s`. -/
inductive FrLe : List AV → List AV → Prop
  | nil : FrLe [] []
  | cons {x y : AV} {l m : List AV} : AvLe x y → FrLe l m → FrLe (x :: l) (y :: m)
/-- Of chunks nothing is forgotten. -/
inductive ChLe : List AV → List AV → Prop
  | nil : ChLe [] []
  | cons {x y : AV} {l m : List AV} : AvLe x y → chunky y = true → ChLe l m → ChLe (x :: l) (y :: m)
inductive BlLe : Blk → Blk → Prop
  | gone (b : Blk) : BlLe b .gone
  | same (b : Blk) : BlLe b b
  | cells {l m : List AV} : ChLe l m → BlLe (.cells l) (.cells m)
/-- Blocks at the end are forgotten. -/
inductive HpLe : List Blk → List Blk → Prop
  | nil (l : List Blk) : HpLe l []
  | cons {x y : Blk} {l m : List Blk} : BlLe x y → HpLe l m → HpLe (x :: l) (y :: m)

theorem FrLe.refl : ∀ l : List AV, FrLe l l
  | [] => .nil
  | x :: l => .cons (.same x) (FrLe.refl l)
theorem FrLe.nth {l m : List AV} (h : FrLe l m) : m.length = l.length ∧ ∀ t, AvLe (SX.nth l t) (SX.nth m t) := by
  induction h with
  | nil => exact ⟨rfl, fun t => .same _⟩
  | cons h _ ih => exact ⟨by simp [ih.1], fun t => by cases t with | zero => exact h | succ t => exact ih.2 t⟩
theorem HpLe.nth {l m : List Blk} (h : HpLe l m) : ∀ t, BlLe (nthB l t) (nthB m t) := by
  induction h with
  | nil => exact fun t => .gone _
  | cons h _ ih => exact fun t => by cases t with | zero => exact h | succ t => exact ih t
theorem HpLe.len {l m : List Blk} (h : HpLe l m) : lenB m ≤ lenB l := by
  induction h with
  | nil => exact Nat.zero_le _
  | cons h _ ih => simp only [lenB]; omega

theorem AvLe.vr {x y : AV} (h : AvLe x y) {R : RC} {v : Value} (hx : VR R x v) : VR R y v := by
  cases h with
  | any => trivial
  | same => exact hx
  | lit => exact hx
  | lb => exact hx
theorem AvLe.vr0 {x y : AV} (h : AvLe x y) {R : RC} {v : Value} (hx : VR0 R x v) : VR0 R y v := by
  cases h with
  | any => trivial
  | same => exact hx
  | lit => exact hx
  | lb => exact hx
theorem ChLe.crl {l m : List AV} (h : ChLe l m) : ∀ {R : RC} {cs : List Value}, CRL R l cs → CRL R m cs := by
  induction h with
  | nil => exact fun h => h
  | @cons x y l m hxy hch hlm ih =>
    intro R cs hc
    by_cases hx : ∃ k n xs, x = .arr k n xs
    · obtain ⟨k, n, xs, rfl⟩ := hx
      cases hxy with
      | any => simp [chunky] at hch
      | same =>
        obtain ⟨cs', h1, h2, h3, h4⟩ := hc
        exact ⟨cs', h1, h2, h3, ih h4⟩
    · have hx' : ∀ k n xs, x ≠ .arr k n xs := fun k n xs he => hx ⟨k, n, xs, he⟩
      have hy' : ∀ k n xs, y ≠ .arr k n xs := by
        intro k n xs he
        cases hxy with
        | any => cases he
        | same => exact hx' _ _ _ he
        | lit => cases he
        | lb => cases he
      rw [CRL.cons hx'] at hc
      rw [CRL.cons hy']
      obtain ⟨v, cs', h1, h2, h3, _, h5⟩ := hc
      exact ⟨v, cs', h1, hxy.vr0 h2, h3, hch, ih h5⟩
theorem ChLe.lenAt {l m : List AV} (h : ChLe l m) : ∀ off, lenAt (.cells l) off = lenAt (.cells m) off := by
  induction h with
  | nil => exact fun _ => rfl
  | @cons x y l m hxy hch hlm ih =>
    have hs : chSize x = chSize y := by
      cases hxy with
      | any => simp [chunky] at hch
      | same => rfl
      | lit => rfl
      | lb => rfl
    intro off
    cases off with
    | zero =>
      cases hxy with
      | any => simp [chunky] at hch
      | same => simp [SX.lenAt, chunkAt, dropC]
      | lit => simp [SX.lenAt, chunkAt, dropC]
      | lb => simp [SX.lenAt, chunkAt, dropC]
    | succ o =>
      simp only [SX.lenAt, chunkAt, dropC, hs]
      by_cases hb : leN (chSize y) (o + 1) = true
      · simp only [hb, if_true]
        exact ih _
      · simp only [hb]
        rfl

structure SLe (s s' : St) : Prop where
  fr : FrLe s.fr s'.fr
  hp : HpLe s.hp s'.hp
  cl : Bool.and (frB (lenB s'.hp) s'.fr) (hpB (lenB s'.hp) s'.hp) = true

theorem allB_iff {k : Nat} : ∀ {l : List Nat}, allB k l = true ↔ ∀ x ∈ l, x < k
  | [] => by simp [allB]
  | x :: l => by simp only [allB, Bool.and_eq_true, leN_eq, allB_iff (l := l), List.forall_mem_cons]; exact Iff.rfl

/-- The same with fewer names. -/
def RC.cut (R : RC) (own : Nat → Prop) (k : Nat) : RC := { R with own := own, al := fun m => m < k }

theorem VR0.cut {R : RC} {own : Nat → Prop} {k : Nat} (ho : ∀ b, own b → R.own b) {x : AV} {v : Value} (hn : ∀ m ∈ nmOf x, m < k) (h : VR0 R x v) : VR0 (R.cut own k) x v := by
  have rd : ∀ {k0 : IntKind} {xs : List Int} {ad : Addr}, Rd R k0 xs ad → Rd (R.cut own k) k0 xs ad := fun h => ⟨h.cell, fun hb => h.far (ho _ hb)⟩
  cases x with
  | sli k0 xs =>
    obtain ⟨ad, cap, hv, h1, h2, h3, h4⟩ := h
    exact ⟨ad, cap, hv, h1, h2, h3, fun hne => let ⟨ad, ha, hr⟩ := h4 hne; ⟨ad, ha, rd hr⟩⟩
  | rpi k0 xs i =>
    obtain ⟨ad, j, x, h1, h2, h3, h4, h5, h6⟩ := h
    exact ⟨ad, j, x, h1, h2, h3, h4, h5, fun hb => h6 (ho _ hb)⟩
  | rpa k0 xs =>
    obtain ⟨h1, p, hp, h2⟩ := h
    exact ⟨h1, p, hp, fun hne => let ⟨ad, ha, hr⟩ := h2 hne; ⟨ad, ha, rd hr⟩⟩
  | itd f k xs =>
    obtain ⟨ad, u, h1, h2, h3, a, cap, h4, h5, h6, h7, h8⟩ := h
    exact ⟨ad, u, h1, h2, fun hb => h3 (ho _ hb), a, cap, h4, h5, h6, h7, fun hne => let ⟨ad, ha, hr⟩ := h8 hne; ⟨ad, ha, rd hr⟩⟩
  | osl nm lo len => obtain ⟨_, h⟩ := h; exact ⟨hn nm (by simp [nmOf]), h⟩
  | ptr nm off => obtain ⟨_, h⟩ := h; exact ⟨hn nm (by simp [nmOf]), h⟩
  | pti nm off i => obtain ⟨_, h⟩ := h; exact ⟨hn nm (by simp [nmOf]), h⟩
  | pta nm lo m => obtain ⟨_, h⟩ := h; exact ⟨hn nm (by simp [nmOf]), h⟩
  | _ => exact h

theorem CRL.cut {R : RC} {own : Nat → Prop} {k : Nat} (ho : ∀ b, own b → R.own b) : ∀ {l : List AV} {cs : List Value}, (∀ m ∈ nmsOf l, m < k) → CRL R l cs → CRL (R.cut own k) l cs
  | [], _, _, h => h
  | x :: l, cs, hn, h => by
    simp only [nmsOf, List.mem_append] at hn
    by_cases hx : ∃ k n xs, x = .arr k n xs
    · obtain ⟨k, n, xs, rfl⟩ := hx
      obtain ⟨cs', h1, h2, h3, h4⟩ := h
      exact ⟨cs', h1, h2, h3, CRL.cut ho (fun m hm => hn m (.inr hm)) h4⟩
    · have hx' : ∀ k n xs, x ≠ .arr k n xs := fun k n xs he => hx ⟨k, n, xs, he⟩
      rw [CRL.cons hx'] at h ⊢
      obtain ⟨v, cs', h1, h2, h3, h4, h5⟩ := h
      exact ⟨v, cs', h1, h2.cut ho (fun m hm => hn m (.inl hm)), h3, h4, CRL.cut ho (fun m hm => hn m (.inr hm)) h5⟩

def nms1 : AV → List Nat
  | .agg l => nmsOf l
  | x => nmOf x
theorem VR1.cut {R : RC} {own : Nat → Prop} {k : Nat} (ho : ∀ b, own b → R.own b) {x : AV} {v : Value} (hn : ∀ m ∈ nms1 x, m < k) (h : VR1 R x v) : VR1 (R.cut own k) x v := by
  cases x with
  | agg l => obtain ⟨cs, h1, h2⟩ := h; exact ⟨cs, h1, h2.cut ho hn⟩
  | _ => simp only [VR1, nms1] at hn h ⊢; exact h.cut ho hn

theorem VRL.cut {R : RC} {own : Nat → Prop} {k : Nat} (ho : ∀ b, own b → R.own b) : ∀ {l : List AV} {vs : List Value}, (∀ m ∈ nmsIn.nms2 l, m < k) → VRL R l vs → VRL (R.cut own k) l vs
  | [], _, _, h => h
  | x :: l, vs, hn, h => by
    obtain ⟨v, vs', h1, h2, h3⟩ := h
    have h4 : (∀ m ∈ nms1 x, m < k) ∧ (∀ m ∈ nmsIn.nms2 l, m < k) := by
      have e : nmsIn.nms2 (x :: l) = nms1 x ++ nmsIn.nms2 l := by cases x <;> rfl
      rw [e] at hn
      exact ⟨fun m hm => hn m (List.mem_append_left _ hm), fun m hm => hn m (List.mem_append_right _ hm)⟩
    exact ⟨v, vs', h1, h2.cut ho h4.1, VRL.cut ho h4.2 h3⟩

theorem VR.cut {R : RC} {own : Nat → Prop} {k : Nat} (ho : ∀ b, own b → R.own b) {x : AV} {v : Value} (hn : ∀ m ∈ nmsIn x, m < k) (h : VR R x v) : VR (R.cut own k) x v := by
  cases x with
  | tup l => obtain ⟨vs, h1, h2⟩ := h; exact ⟨vs, h1, h2.cut ho hn⟩
  | agg l => exact VR1.cut (x := .agg l) ho hn h
  | any => trivial
  | _ => simp only [VR, VR1, nmsIn] at hn h ⊢; exact h.cut ho (by first | exact hn | (intro m hm; simp [nmOf] at hm))

theorem frB_nth {k : Nat} : ∀ {l : List AV}, frB k l = true → ∀ t, ∀ m ∈ nmsIn (nth l t), m < k
  | [], _, t, m, hm => by simp [nth, nmsIn] at hm
  | x :: l, h, 0, m, hm => by simp only [frB, Bool.and_eq_true] at h; exact allB_iff.1 h.1 m hm
  | x :: l, h, t + 1, m, hm => by simp only [frB, Bool.and_eq_true] at h; exact frB_nth h.2 t m hm
theorem hpB_nth {k : Nat} : ∀ {l : List Blk}, hpB k l = true → ∀ t, blB k (nthB l t) = true
  | [], _, t => rfl
  | x :: l, h, 0 => by simp only [hpB, Bool.and_eq_true] at h; exact h.1
  | x :: l, h, t + 1 => by simp only [hpB, Bool.and_eq_true] at h; exact hpB_nth h.2 t

theorem ConcL.le {s s' : St} {R : RC} {a : Act} (hc : ConcL O B w0 s R a) (h : SLe s s') : ∃ R', R'.w = R.w ∧ ConcL O B w0 s' R' a := by
  obtain ⟨hlen, hf⟩ := h.fr.nth
  have hcl := h.cl
  rw [Bool.and_eq_true] at hcl
  have hsub : ∀ m, nthB s'.hp m ≠ .gone → nthB s.hp m ≠ .gone := fun m hm hg => by
    have := h.hp.nth m
    rw [hg] at this
    cases hb : nthB s'.hp m <;> rw [hb] at this hm <;> first | exact hm rfl | cases this
  have ho : ∀ b, (O b ∨ ∃ nm, nthB s'.hp nm ≠ .gone ∧ R.ρ nm = b) → R.own b := by
    rintro b (hO | ⟨nm, hg, hr⟩)
    · exact (hc.c.own b).2 (.inl hO)
    · exact (hc.c.own b).2 (.inr ⟨nm, hsub nm hg, hr⟩)
  refine ⟨R.cut (fun b => O b ∨ ∃ nm, nthB s'.hp nm ≠ .gone ∧ R.ρ nm = b) (lenB s'.hp), rfl, ⟨⟨fun t => ?_, fun t ht => ?_, by rw [hlen]; exact hc.c.le, fun b => Iff.rfl, hc.c.oB, fun nm => ?_, fun nm nm' hg hg' he => ?_, hc.c.bw, hc.c.df⟩, fun m => Iff.rfl, hc.hB⟩⟩
  · exact VR.cut ho (frB_nth hcl.1 t) ((hf t).vr (hc.c.tm t))
  · have h1 := hf t
    rw [hc.c.sz t (by rw [← hlen]; exact ht)] at h1
    generalize nth s'.fr t = y at h1 ⊢
    cases h1 <;> rfl
  · by_cases hg : nthB s'.hp nm = .gone
    · rw [hg]; trivial
    · have hb := hc.c.bl nm
      have hle := h.hp.nth nm
      have hlt := nthB_lt hg
      have hbb := hpB_nth hcl.2 nm
      have hsame : BlkR R B nm (nthB s'.hp nm) := by
        generalize nthB s.hp nm = x at hb hle
        generalize nthB s'.hp nm = y at hle hg
        cases hle with
        | gone => exact absurd rfl hg
        | same => exact hb
        | cells hch =>
          obtain ⟨h1, h2, cs, ty, h3, h4, h5, h6⟩ := hb
          exact ⟨h1, h2, cs, ty, h3, hch.crl h4, h5, fun off => (h6 off).trans (hch.lenAt off)⟩
      cases hbl : nthB s'.hp nm with
      | gone => trivial
      | cells l =>
        rw [hbl] at hsame hbb
        obtain ⟨h1, h2, cs, ty, h3, h4, h5⟩ := hsame
        exact ⟨hlt, h2, cs, ty, h3, h4.cut ho (allB_iff.1 hbb), h5⟩
      | row k xs =>
        rw [hbl] at hsame
        obtain ⟨h1, h2⟩ := hsame
        exact ⟨hlt, h2⟩
  · exact hc.c.inj nm nm' (hsub nm hg) (hsub nm' hg') he

theorem AWP.le {code : Code} {s s' : St} (h : SLe s s') (hw : AWP na P code s' Q) : AWP na P code s Q := by
  intro O B w0 R a hna hc
  obtain ⟨R', hR, hc'⟩ := hc.le h
  rw [← hR]
  exact hw O B w0 R' a hna hc'

/-- A loop: its states one after another. -/
def sround {α : Type} (I : α → St) (μ : α → Nat) (x : α) (Q : XE → St → Prop) : XE → St → Prop
  | .normal, s => ∃ y, μ y < μ x ∧ SLe s (I y)
  | x, s => Q x s

theorem AWP.loop {α : Type} (I : α → St) (μ : α → Nat) (x0 : α) {b : Code} {s : St} (h0 : SLe s (I x0)) (round : ∀ x, AWP na P b (I x) (sround I μ x Q)) : AWP na P (.loop b) s Q := by
  refine AWP.le h0 ?_
  intro O B w0 R a hna hc
  refine wpIn_loop_ghost (fun n a w => ∃ x R, μ x = n ∧ R.w = w ∧ ConcL O B w0 (I x) R a) (μ x0) ⟨x0, R, rfl, rfl, hc⟩ ?_
  rintro n a w ⟨x, R, rfl, rfl, hc⟩
  refine wpIn_mono (round x O B w0 R a hna hc) ?_
  rintro e a' w' ⟨z, s', R', rfl, hq, rfl, hc'⟩
  cases z with
  | normal =>
    obtain ⟨y, hy, hle⟩ := hq
    obtain ⟨R'', hR, hc''⟩ := hc'.le hle
    exact ⟨μ y, hy, y, R'', rfl, hR, hc''⟩
  | exit id => exact ⟨_, _, _, rfl, hq, rfl, hc'⟩
  | ret => exact ⟨_, _, _, rfl, hq, rfl, hc'⟩

/-- A loop by a relation that each round hands on. -/
def handed {α : Type} (I : α → St) (J : α → Prop) (μ : α → Nat) (x : α) (Q : XE → St → Prop) : XE → St → Prop
  | .normal, s => ∃ y, SLe s (I y) ∧ J y ∧ μ y < μ x
  | x, s => Q x s
theorem handed.mk {α : Type} {I : α → St} {J : α → Prop} {μ : α → Nat} {x : α} {Q : XE → St → Prop} {s : St} (y : α) (h1 : SLe s (I y)) (h2 : J y) (h3 : μ y < μ x) : handed I J μ x Q .normal s := ⟨y, h1, h2, h3⟩
theorem AWP.loopP {α : Type} (I : α → St) (J : α → Prop) (μ : α → Nat) {b : Code} {s : St} (x0 : α) (h0 : SLe s (I x0)) (hJ : J x0) (round : ∀ x, J x → AWP na P b (I x) (handed I J μ x Q)) : AWP na P (.loop b) s Q :=
  AWP.loop (α := {x : α // J x}) (fun x => I x.1) (fun x => μ x.1) ⟨x0, hJ⟩ h0 fun x => (round x.1 x.2).mono fun e s h => by
    cases e with
    | normal => obtain ⟨y, h1, h2, h3⟩ := h; exact ⟨⟨y, h2⟩, h3, h1⟩
    | exit id => exact h
    | ret => exact h

/-- What is to be shown of what the executor came to. -/
def PostA (r : Option (XE × XR)) (Q : XE → St → Prop) : Prop :=
  match r with
  | some (x, ⟨s, _, ob⟩) => Obs ob ∧ Q x s
  | none => False
theorem AWP.go (k : COk P c) (n : Nat) (ds : List Bool) {code : Code} {s : St} (h : PostA (xcode c n code ⟨s, ds, []⟩) Q) (hcn : c.na = na.na := by rfl) : AWP na P code s Q := by
  unfold PostA at h
  split at h
  · rename_i x r hr; exact AWP.exec k hcn hr h.1 h.2
  · exact h.elim
theorem AWP.split (b : Bool) {code : Code} {s : St} (h1 : b = true → AWP na P code s Q) (h2 : b = false → AWP na P code s Q) : AWP na P code s Q := by
  cases b
  · exact h2 rfl
  · exact h1 rfl

/-! ### A call -/
/-- Numbers written out are numbers. -/
def norm (A : Ar) : AV → AV
  | .lit k n => .int k (A.ofNat n)
  | .lb b => .bool b
  | x => x
theorem VR1.norm {R : RC} {x : AV} {v : Value} (h : VR1 R x v) : VR1 R (norm stdAr x) v := by
  cases x <;> exact h

def res1 (c : Cx) (s : St) : ResultVar → Option AV
  | .tmp t => match closeAV c.A (nthB s.hp) (nth s.fr t) with
    | some v => some (norm c.A v)
    | none => none
  | .cell t ty => match loadAV c (nthB s.hp) ty (nth s.fr t) with
    | some v => match closeAV c.A (nthB s.hp) v with
      | some v => some (norm c.A v)
      | none => none
    | none => none
def resL (c : Cx) (s : St) : List ResultVar → Option (List AV)
  | [] => some []
  | x :: l => match res1 c s x with
    | some v => match resL c s l with
      | some r => some (v :: r)
      | none => none
    | none => none
def resOf (c : Cx) (s : St) (l : List ResultVar) : Option AV :=
  match resL c s l with
  | some [x] => some x
  | some l => some (.tup l)
  | none => none

/-- A result, read. -/
def resRun (tmps : Array Value) : ResultVar → Sem Value
  | .tmp t => pure (tmps.getD t undef)
  | .cell a t => do loadVar t (← asAddr (tmps.getD a undef))

theorem res1_spec (k : COk P c) {s : St} {R : RC} {a : Act} (hc : ConcL O B w0 s R a) {x : ResultVar} {v : AV} (h : res1 c s x = some v) :
    ∃ u, (resRun a.tmps x).run P R.w = .ok u R.w ∧ VR1 (RC0 O R.w) v u := by
  have close : ∀ {y v : AV} {u : Value}, VR R y u → closeAV c.A (nthB s.hp) y = some v → VR1 (RC0 O R.w) v u := by
    intro y v u hy hcl
    rw [k.hA] at hcl
    refine closeAV_spec hc.c (fun b hb => (hc.c.own b).2 (.inl hb)) (fun nm lo len he hO => ?_) hy hcl
    subst he
    have hlive : nthB s.hp nm ≠ .gone := by intro hg; simp [closeAV, hg, blkInts] at hcl
    exact ((hc.c.bl nm).heap hlive).2.1 (hc.c.oB _ hO).1
  cases x with
  | tmp t =>
    simp only [res1] at h
    split at h
    · rename_i z hz
      simp only [Option.some.injEq] at h
      subst h
      refine ⟨a.tmps.getD t undef, rfl, ?_⟩
      rw [k.hA]
      exact (close (hc.c.tm t) hz).norm
    · simp at h
  | cell p ty =>
    simp only [res1] at h
    split at h
    · rename_i y hy
      split at h
      rotate_left
      · simp at h
      rename_i z hz
      simp only [Option.some.injEq] at h
      subst h
      obtain ⟨ad, u, h1, h2, h3⟩ := load_any hc.c k.hA k.hTy (hc.c.tm p) hy
      refine ⟨u, ?_, by rw [k.hA]; exact (close h3 hz).norm⟩
      simp [resRun, h1, asAddr, h2]
    · simp at h

theorem resL_spec (k : COk P c) {s : St} {R : RC} {a : Act} (hc : ConcL O B w0 s R a) : ∀ {l : List ResultVar} {r : List AV}, resL c s l = some r →
    ∃ vs, (l.mapM (resRun a.tmps)).run P R.w = .ok vs R.w ∧ VRL (RC0 O R.w) r vs
  | [], r, h => by simp only [resL, Option.some.injEq] at h; subst h; exact ⟨[], rfl, rfl⟩
  | x :: l, r, h => by
    simp only [resL] at h
    split at h
    · rename_i v hv
      split at h
      · rename_i r' hr'
        simp only [Option.some.injEq] at h
        subst h
        obtain ⟨u, h1, h2⟩ := res1_spec k hc hv
        obtain ⟨vs, h3, h4⟩ := resL_spec k hc hr'
        refine ⟨u :: vs, ?_, u, vs, rfl, h2, h4⟩
        rw [List.mapM_cons]
        simp [h1, h3]
      · simp at h
    · simp at h

/-- What the executor says of the results is what comes back. -/
theorem results_spec (k : COk P c) {fn : Func} {s : St} {R : RC} {a : Act} (hc : ConcL O B w0 s R a) {r : AV} (h : resOf c s fn.results.toList = some r) :
    ∃ u, (results fn a.tmps).run P R.w = .ok u R.w ∧ VR (RC0 O R.w) r u := by
  have hres : results fn a.tmps = (fn.results.mapM (resRun a.tmps) >>= fun vs => pure (if h : vs.size = 1 then vs[0] else .tuple vs)) := rfl
  unfold resOf at h
  have arr : ∀ {l : List AV} {vs : List Value}, (fn.results.toList.mapM (resRun a.tmps)).run P R.w = .ok vs R.w → (fn.results.mapM (resRun a.tmps)).run P R.w = .ok vs.toArray R.w := by
    intro l vs hv
    rw [Array.mapM_eq_mapM_toList]
    simp [hv]
  cases hl : resL c s fn.results.toList with
  | none => rw [hl] at h; simp at h
  | some l =>
    obtain ⟨vs, h1, h2⟩ := resL_spec k hc hl
    have h3 := arr (l := l) h1
    rw [hl] at h
    have step : (results fn a.tmps).run P R.w = .ok (if h : vs.toArray.size = 1 then vs.toArray[0] else .tuple vs.toArray) R.w := by
      rw [hres]
      simp [h3]
    refine ⟨_, step, ?_⟩
    have hlen : ∀ {l : List AV} {vs : List Value}, VRL (RC0 O R.w) l vs → vs.length = l.length := by
      intro l
      induction l with
      | nil => intro vs h; have : vs = [] := h; subst this; rfl
      | cons x l ih => rintro vs ⟨v, vs', rfl, _, h⟩; simp [ih h]
    match l, h, h2 with
    | [x], h, h2 =>
      simp only [Option.some.injEq] at h
      subst h
      obtain ⟨v, vs', rfl, h4, h5⟩ := h2
      have : vs' = [] := h5
      subst this
      simp only [List.size_toArray, List.length_singleton, dite_true]
      cases x with
      | tup l => exact absurd h4 (by simp [VR1, VR0])
      | _ => exact h4
    | [], h, h2 =>
      simp only [Option.some.injEq] at h
      subst h
      have : vs = [] := h2
      subst this
      exact ⟨[], rfl, rfl⟩
    | x :: y :: l, h, h2 =>
      simp only [Option.some.injEq] at h
      subst h
      have := hlen h2
      rw [dif_neg (by simp [this])]
      exact ⟨vs, rfl, h2⟩

theorem VRL.len : ∀ {R : RC} {l : List AV} {vs : List Value}, VRL R l vs → vs.length = l.length
  | _, [], vs, h => by have : vs = [] := h; subst this; rfl
  | _, x :: l, vs, ⟨v, vs', he, _, h⟩ => by subst he; simp [VRL.len h]
theorem VRL.nth : ∀ {R : RC} {l : List AV} {vs : List Value}, VRL R l vs → ∀ t, VR1 R (SX.nth l t) (vs.getD t undef) ∨ SX.nth l t = .any
  | _, [], vs, h, t => .inr rfl
  | _, x :: l, vs, ⟨v, vs', he, h1, h⟩, 0 => by subst he; exact .inl h1
  | _, x :: l, vs, ⟨v, vs', he, h1, h⟩, t + 1 => by subst he; simpa [SX.nth] using VRL.nth h t
theorem nth_rep : ∀ (l : List AV) (n t : Nat), SX.nth (l ++ List.replicate n .any) t = SX.nth l t
  | [], 0, t => rfl
  | [], n + 1, 0 => rfl
  | [], n + 1, t + 1 => by simpa [SX.nth, List.replicate_succ] using nth_rep [] n t
  | x :: l, n, 0 => rfl
  | x :: l, n, t + 1 => by simpa [SX.nth] using nth_rep l n t
theorem nth_big : ∀ (l : List AV) (t : Nat), l.length ≤ t → SX.nth l t = .any
  | [], _, _ => rfl
  | x :: l, 0, h => by simp at h
  | x :: l, t + 1, h => by simpa [SX.nth] using nth_big l t (by simpa using h)

def noTup : List AV → Bool
  | [] => true
  | .tup _ :: _ => false
  | _ :: l => noTup l
theorem noTup_nth : ∀ {l : List AV}, noTup l = true → ∀ t r, SX.nth l t ≠ .tup r
  | [], _, t, r => by simp [SX.nth]
  | x :: l, h, 0, r => by intro e; simp only [SX.nth] at e; subst e; simp [noTup] at h
  | x :: l, h, t + 1, r => noTup_nth (l := l) (by cases x <;> simp [noTup] at h <;> exact h) t r

/-! ### The world goes on beside what is said of it -/
theorem Conc.grown {L : Nat} {R : RC} {fr : Nat → AV} {hp : Nat → Blk} {a a' : Act} (h : Conc O B w0 L R fr hp a) {W' : World} {row : Option Nat} (hg : R.w.grownBy W' row) (hr : ∀ r, row = some r → w0.heap.size ≤ r ∧ ∃ o : Obj, R.w.heap[r]? = some o ∧ o.isCells = false)
    (ha : a'.tmps = a.tmps) (hm : Marks w0 W' W'.heap.size a'.defers) : Conc O B w0 L (R.on W') fr hp a' ∧ Ext R (R.on W') := by
  have same : ∀ (k : Nat) (cs : Array Value) (ty : TypeId) (z : Nat × Nat), R.w.heap[k]? = some (.cells cs ty z) → W'.heap[k]? = some (.cells cs ty z) := fun k cs ty z hk => by
    rw [hg.block k (Array.getElem?_eq_some_iff.1 hk).1 (fun e => ?_)]
    · exact hk
    · obtain ⟨_, o, ho, hc⟩ := hr k e.symm
      rw [hk] at ho
      obtain rfl := Option.some.inj ho
      simp [Obj.isCells] at hc
  have e : Ext R (R.on W') := ⟨fun _ h => h, fun _ _ => rfl, fun _ _ => rfl, fun _ _ => rfl, fun ad v hc ho => by
    refine ⟨?_, ho⟩
    have hb : ∃ cs ty z, R.w.heap[ad.block]? = some (.cells cs ty z) := by
      unfold World.cell? at hc
      split at hc
      · rename_i hb; exact ⟨_, _, _, hb⟩
      · simp at hc
    obtain ⟨cs, ty, z, hb⟩ := hb
    show W'.cell? ad = some v
    rw [← hc]
    exact World.cell?_of_block ((same _ _ _ _ hb).trans hb.symm)⟩
  refine ⟨⟨fun t => by rw [ha]; exact (h.tm t).ext e, h.sz, by rw [ha]; exact h.le, h.own, h.oB, fun nm => ?_, h.inj, ?_, hm⟩, e⟩
  · refine (h.bl nm).ext e fun hgn => ?_
    obtain ⟨cs, ty, h1, _⟩ := (h.bl nm).cells hgn
    exact (same _ _ _ _ h1).trans h1.symm
  · refine ⟨hg.os.trans h.bw.os, hg.tape.trans h.bw.tape, hg.output.trans h.bw.output, Nat.le_trans h.bw.size hg.size, fun k hk hkp => ?_, fun k cs ty hc => ?_⟩
    · show W'.heap[k]? = _
      rw [hg.block k (Nat.lt_of_lt_of_le hk h.bw.size) (fun e => by have := (hr k e.symm).1; omega)]
      exact h.bw.block k hk hkp
    · obtain ⟨cs', ty', h1, h2⟩ := h.bw.rows k cs ty hc
      exact ⟨cs', ty', same _ _ _ _ h1, h2⟩

theorem Marks.putObj {w0 w : World} {D : Nat} {o : Obj} : ∀ {E B' : Nat} {l : List Deferred}, E ≤ D → E ≤ B' → Marks w0 w E l → Marks w0 (w.putObj D o) B' l
  | _, _, [], _, _, _ => trivial
  | _, _, d :: l, hE, hB, ⟨D', h1, h2, h3, h4, h5⟩ => ⟨D', Nat.lt_of_lt_of_le h1 hB, h2, h3, (World.putObj_heap_other (by omega)).trans h4, Marks.putObj (by omega) (Nat.le_refl _) h5⟩

theorem leaves_of {F : Fence} {n : Nat} {fn : Func} {tmps : Array Value} {S : Ending → World → Prop} {s : St}
    (hS : ∀ (R' : RC) (a' : Act), a'.tmps = tmps → ConcL O B w0 s R' a' → ∃ u, (results fn tmps).run P R'.w = .ok u R'.w ∧ S (.returned u) R'.w) :
    ∀ (ds : List Deferred) (R : RC) (a : Act), ConcL O B w0 s R a → a.tmps = tmps → a.defers = ds → LeavesInM F n P fn tmps S ds .returning R.w
  | [], R, a, hc, ht, hd => hS R a ht hc
  | d :: ds, R, a, hc, ht, hd => by
    have hm := hc.c.df
    rw [hd] at hm
    obtain ⟨D, h1, h2, rfl, h4, h5⟩ := hm
    refine ⟨by simp, .inl ⟨D, _, rfl, run_takeDeferred h4, ?_⟩⟩
    have hg := grownBy_putObj' R.w D (.deferred none)
    obtain ⟨hc', _⟩ := hc.c.grown (a' := { a with defers := ds }) hg (fun r e => by cases e; exact ⟨h2, _, h4, rfl⟩) rfl (Marks.putObj (Nat.le_refl _) (by simp [World.putObj]; omega) h5)
    exact leaves_of hS ds (R.on (R.w.putObj D (.deferred none))) { a with defers := ds } ⟨hc', hc.al, hc.hB.mono hg.size⟩ ht rfl

/-- What a body does is what a call answers. -/
theorem FCall.split {f : FuncId} {args : List AV} {r : AV} (b : Bool) (h1 : b = true → FCall P f args r) (h2 : b = false → FCall P f args r) : FCall P f args r := by
  cases b
  · exact h2 rfl
  · exact h1 rfl

/-- What a body does is what a call answers. -/
theorem FCall.of_body (k : COk P c) {f : FuncId} {fn : Func} {code : Code} {args : List AV} {r : AV} (hf : P.funcs[f]? = some fn) (hb : fn.body = some code) (hname : (fn.name == "runtime.NumGoroutine") = false) (hnt : noTup args = true)
    (h : (∃ own w vs, VRL (RC0 own w) args vs) → AWP mF P code ⟨args ++ List.replicate (fn.ntmps - args.length) .any, []⟩ (fun x s => (∀ id, x ≠ .exit id) ∧ resOf c s fn.results.toList = some r)) : FCall P f args r := by
  intro own w vs hown hvs
  have hrun : (callFunc f vs.toArray).run P w = .ok (.enter f vs.toArray) w := by
    unfold callFunc
    have hname' : ¬ fn.name = "runtime.NumGoroutine" := by simpa using hname
    simp [hf, hname', hb]
  unfold CallsX
  rw [hrun]
  simp only
  refine (callsIn_wide (n := 9)).1 (callsIn_of_wp_marks hf hb trivial ?_ rfl)
  have hlen := hvs.len
  have hc : ConcL own ⟨fun b => b < w.heap.size, false⟩ w ⟨args ++ List.replicate (fn.ntmps - args.length) .any, []⟩ (RC0 own w) { tmps := vs.toArray ++ Array.replicate (fn.ntmps - vs.toArray.size) undef, defers := [] } := by
    refine ⟨⟨fun t => ?_, fun t ht => nth_big _ _ ht, by simp [hlen], fun b => ⟨fun h => .inl h, fun h => h.elim id (fun ⟨nm, hg, _⟩ => absurd rfl hg)⟩, fun b hb => ⟨hown b hb, hown b hb⟩, fun nm => trivial, fun nm nm' hg => absurd rfl hg, Kept.refl _ _, trivial⟩, fun m => by simp [RC0, lenB], fun _ b hb => Nat.not_lt.2 hb⟩
    show VR _ (SX.nth (args ++ List.replicate _ .any) t) _
    rw [nth_rep]
    rcases hvs.nth t with h1 | h1
    · by_cases ht : t < vs.length
      · have : (vs.toArray ++ Array.replicate (fn.ntmps - vs.toArray.size) undef).getD t undef = vs.getD t undef := by
          simp [Array.getD_eq_getD_getElem?, List.getD_eq_getElem?_getD, Array.getElem?_append, ht]
        rw [this]
        have hnt2 := noTup_nth hnt t
        cases he : SX.nth args t with
        | tup l => exact absurd he (hnt2 l)
        | _ => rw [he] at h1; exact h1
      · rw [nth_big args t (by omega)]; trivial
    · rw [h1]; trivial
  refine wpIn_mono (h ⟨own, w, vs, hvs⟩ own ⟨fun b => b < w.heap.size, false⟩ w (RC0 own w) _ rfl hc) ?_
  rintro e a' w' ⟨x, s', R', rfl, ⟨hx, hr⟩, rfl, hc'⟩
  have post := leaves_of (F := Fence.wide) (n := 9) (fn := fn) (tmps := a'.tmps) (S := fun e w' => ∃ v, e = .returned v ∧ VR (RC0 own w') r v ∧ Below w.heap.size w w') (O := own) (B := ⟨fun b => b < w.heap.size, false⟩) (w0 := w) (s := s')
    (fun R2 a2 h2 hc2 => by
      obtain ⟨u, g1, g2⟩ := results_spec (fn := fn) k hc2 hr
      rw [h2] at g1
      exact ⟨u, g1, u, rfl, g2, ⟨hc2.c.bw.os, hc2.c.bw.tape, hc2.c.bw.output, hc2.c.bw.size, fun k hk => hc2.c.bw.block k hk hk⟩⟩) a'.defers R' a' hc' rfl rfl
  cases x with
  | normal => exact post
  | ret => exact post
  | exit id => exact absurd rfl (hx id)

/-- What a body does with its first argument's numbers is what a call does. -/
theorem MCall.of_body (k : COk P c) {f : FuncId} {fn : Func} {code : Code} {args : List AV} {r : AV} {kk : IntKind} {xs xs' : List Int} {lo len : Int} (hf : P.funcs[f]? = some fn) (hb : fn.body = some code) (hname : (fn.name == "runtime.NumGoroutine") = false) (hnt : noTup args = true) (hl : xs'.length = xs.length)
    (h : RgL kk xs → (0 ≤ lo ∧ 0 ≤ len ∧ lo + len ≤ xs.length ∧ len ≤ 9223372036854775807) → (∃ own w vs, VRL (RC0 own w) args vs) → AWP mM P code ⟨.osl 0 lo len :: (args ++ List.replicate (fn.ntmps - (args.length + 1)) .any), [.row kk xs]⟩
      (fun x s => (∀ id, x ≠ .exit id) ∧ resOf c s fn.results.toList = some r ∧ nthB s.hp 0 = .row kk xs')) : MCall P f kk xs lo len args r xs' := by
  intro b w v0 vs rest ty hh hr hsl hvs
  have hrun : (callFunc f (v0 :: vs).toArray).run P w = .ok (.enter f (v0 :: vs).toArray) w := by
    unfold callFunc
    have hname' : ¬ fn.name = "runtime.NumGoroutine" := by simpa using hname
    simp [hf, hname', hb]
  unfold CallsX
  rw [hrun]
  simp only
  refine (callsIn_wide (n := 9)).1 (callsIn_of_wp_marks hf hb trivial ?_ rfl)
  have hlen := hvs.len
  have hblt : b < w.heap.size := (Array.getElem?_eq_some_iff.1 hh).1
  have hlo : 0 ≤ lo ∧ 0 ≤ len ∧ lo + len ≤ xs.length ∧ len ≤ 9223372036854775807 := by
    obtain ⟨lo', len', cap, rfl, rfl, _, _, _, h1, h2⟩ := hsl
    omega
  let R0 : RC := { own := fun x => x = b, al := fun m => m = 0, ρ := fun _ => b, ln := fun _ => lenAt (.row kk xs), rs := fun _ => xs.length + rest.length, w := w }
  have hc : ConcL (fun _ => False) ⟨fun x => x ≠ b, true⟩ w ⟨.osl 0 lo len :: (args ++ List.replicate (fn.ntmps - (args.length + 1)) .any), [.row kk xs]⟩ R0 { tmps := (v0 :: vs).toArray ++ Array.replicate (fn.ntmps - (v0 :: vs).toArray.size) undef, defers := [] } := by
    refine ⟨⟨fun t => ?_, fun t ht => nth_big _ _ ht, by simp [hlen]; omega, fun x => ⟨fun h => .inr ⟨0, by simp [nthB], h.symm⟩, fun h => h.elim False.elim (fun ⟨nm, _, h⟩ => h.symm)⟩, fun _ h => h.elim, fun nm => ?_, fun nm nm' hg hg' _ => ?_, Kept.refl _ _, trivial⟩, fun m => by simp [R0, lenB], fun h => by simp at h⟩
    · cases t with
      | zero =>
        show VR R0 (.osl 0 lo len) _
        obtain ⟨lo', len', cap, h1, h2, ⟨ad, h3, h4⟩, h5, h6, h7, h8⟩ := hsl
        refine ⟨rfl, lo', len', cap, h1, h2, ⟨ad, ?_, h4⟩, h5, h6, ?_, h8⟩
        · rw [← h3]; simp [Array.getD_eq_getD_getElem?, Array.getElem?_append]
        · simp [R0, lenAt]; exact h7
      | succ t =>
        show VR R0 (SX.nth (args ++ List.replicate _ .any) t) _
        rw [nth_rep]
        rcases hvs.nth t with h1 | h1
        · by_cases ht : t < vs.length
          · have : ((v0 :: vs).toArray ++ Array.replicate (fn.ntmps - (v0 :: vs).toArray.size) undef).getD (t + 1) undef = vs.getD t undef := by
              simp [Array.getD_eq_getD_getElem?, List.getD_eq_getElem?_getD, Array.getElem?_append, ht]
            show VR R0 _ (((v0 :: vs).toArray ++ Array.replicate (fn.ntmps - (v0 :: vs).toArray.size) undef).getD (t + 1) undef)
            rw [this]
            have hnt2 := noTup_nth hnt t
            have e : Ext (RC0 (fun x => x = b) w) R0 := ⟨fun _ h => h.elim, fun _ h => h.elim, fun _ h => h.elim, fun _ h => h.elim, fun ad v h1 h2 => ⟨h1, h2⟩⟩
            cases he : SX.nth args t with
            | tup l => exact absurd he (hnt2 l)
            | _ => rw [he] at h1; exact VR.ext e (by exact h1)
          · rw [nth_big args t (by omega)]; trivial
        · rw [h1]; trivial
    · cases nm with
      | zero => exact ⟨rfl, fun h => h rfl, rest, ty, hh, hr, rfl, fun _ => rfl⟩
      | succ nm => simp only [nthB]; trivial
    · cases nm with
      | zero => cases nm' with
        | zero => rfl
        | succ nm' => simp [nthB] at hg'
      | succ nm => simp [nthB] at hg
  refine wpIn_mono (h hr hlo ⟨_, w, vs, hvs⟩ (fun _ => False) ⟨fun x => x ≠ b, true⟩ w R0 _ rfl hc) ?_
  rintro e a' w' ⟨x, s', R', rfl, ⟨hx, hr', hrow⟩, rfl, hc'⟩
  have post := leaves_of (F := Fence.wide) (n := 9) (fn := fn) (tmps := a'.tmps) (S := fun e w' => ∃ v, e = .returned v ∧ MPost w b kk xs rest r xs' v w') (O := fun _ => False) (B := ⟨fun x => x ≠ b, true⟩) (w0 := w) (s := s')
    (fun R2 a2 h2 hc2 => by
      obtain ⟨u, q1, q2⟩ := results_spec (fn := fn) k hc2 hr'
      rw [h2] at q1
      obtain ⟨rest', ty', g1, g2, g3, g4, g5, g6⟩ := hc2.c.rowb hrow
      have hb' : R2.ρ 0 = b := Classical.not_not.1 g6
      rw [hb'] at g1
      obtain ⟨cs, ty2, g7, g8⟩ := hc2.c.bw.rows b _ _ hh
      rw [g1] at g7
      simp only [Option.some.injEq, Obj.cells.injEq] at g7
      exact ⟨u, q1, u, rfl, q2, hl, g2, ⟨rest', ty', g1, by rw [← g7.1] at g8; simp [ints, hl] at g8; omega⟩, hc2.c.bw.os, hc2.c.bw.tape, hc2.c.bw.output, hc2.c.bw.size, fun i hi hne => hc2.c.bw.block i hi hne⟩) a'.defers R' a' hc' rfl rfl
  cases x with
  | normal => exact post
  | ret => exact post
  | exit id => exact absurd rfl (hx id)

/-! ### Other names for the blocks -/
/-- The old name of a new one. -/
def sg : List Nat → Nat → Nat
  | [], n => n
  | x :: _, 0 => x
  | _ :: l, n + 1 => sg l n
def ren0 (σ : List Nat) : AV → AV
  | .ptr nm off => .ptr (sg σ nm) off
  | .pti nm off i => .pti (sg σ nm) off i
  | .osl nm lo len => .osl (sg σ nm) lo len
  | .pta nm lo m => .pta (sg σ nm) lo m
  | x => x
def renL (σ : List Nat) : List AV → List AV
  | [] => []
  | x :: l => ren0 σ x :: renL σ l
def renV (σ : List Nat) : AV → AV
  | .agg l => .agg (renL σ l)
  | .tup l => .tup (renL1 σ l)
  | x => ren0 σ x
  where renL1 (σ : List Nat) : List AV → List AV
  | [] => []
  | .agg l :: m => .agg (renL σ l) :: renL1 σ m
  | x :: m => ren0 σ x :: renL1 σ m
def renB (σ : List Nat) : Blk → Blk
  | .cells l => .cells (renL σ l)
  | b => b
/-- The frame, under the old names. -/
def renF (σ : List Nat) : List AV → List AV
  | [] => []
  | x :: l => renV σ x :: renF σ l
/-- The blocks that are kept, under the old names. -/
def hpR (σ : List Nat) (hp : List Blk) : List Blk → Nat → Prop
  | [], _ => True
  | b :: l, i => (b = .gone ∨ nthB hp (sg σ i) = renB σ b) ∧ hpR σ hp l (i + 1)
def distinct : List Nat → Bool
  | [] => true
  | x :: l => Bool.and (Bool.not (mem x l)) (distinct l)
def allLtL (k : Nat) : List Nat → Bool
  | [] => true
  | x :: l => Bool.and (leN (x + 1) k) (allLtL k l)

/-- `s` is `s'` under other names. -/
structure Ren (σ : List Nat) (s s' : St) : Prop where
  fr : s.fr = renF σ s'.fr
  hp : hpR σ s.hp s'.hp 0
  ok : Bool.and (Bool.and (eqN (lenB s'.hp) σ.length) (Bool.and (distinct σ) (allLtL (lenB s.hp) σ))) (Bool.and (frB (lenB s'.hp) s'.fr) (hpB (lenB s'.hp) s'.hp)) = true

def RC.ren (R : RC) (σ : List Nat) (own : Nat → Prop) : RC := { R with own := own, al := fun m => m < σ.length, ρ := fun m => R.ρ (sg σ m), ln := fun m => R.ln (sg σ m), rs := fun m => R.rs (sg σ m) }

theorem sg_mem : ∀ {σ : List Nat} {n : Nat}, n < σ.length → sg σ n ∈ σ
  | x :: l, 0, _ => by simp [sg]
  | x :: l, n + 1, h => by simp only [sg]; exact List.mem_cons_of_mem _ (sg_mem (by simpa using h))
theorem sg_inj : ∀ {σ : List Nat} {n m : Nat}, distinct σ = true → n < σ.length → m < σ.length → sg σ n = sg σ m → n = m
  | x :: l, 0, 0, _, _, _, _ => rfl
  | x :: l, 0, m + 1, h, _, hm, e => by
    simp only [distinct, Bool.and_eq_true, Bool.not_eq_true'] at h
    simp only [sg] at e
    have := sg_mem (σ := l) (n := m) (by simpa using hm)
    rw [← e, ← mem_iff] at this
    rw [this] at h; simp at h
  | x :: l, n + 1, 0, h, hn, _, e => by
    simp only [distinct, Bool.and_eq_true, Bool.not_eq_true'] at h
    simp only [sg] at e
    have := sg_mem (σ := l) (n := n) (by simpa using hn)
    rw [e, ← mem_iff] at this
    rw [this] at h; simp at h
  | x :: l, n + 1, m + 1, h, hn, hm, e => by
    simp only [distinct, Bool.and_eq_true] at h
    simp only [sg] at e
    rw [sg_inj h.2 (by simpa using hn) (by simpa using hm) e]
theorem allLtL_iff {k : Nat} : ∀ {l : List Nat}, allLtL k l = true ↔ ∀ x ∈ l, x < k
  | [] => by simp [allLtL]
  | x :: l => by simp only [allLtL, Bool.and_eq_true, leN_eq, allLtL_iff (l := l), List.forall_mem_cons]; exact Iff.rfl

theorem VR0.ren {R : RC} {σ : List Nat} {own : Nat → Prop} (ho : ∀ b, own b → R.own b) {x : AV} {v : Value} (hn : ∀ m ∈ nmOf x, m < σ.length) (h : VR0 R (ren0 σ x) v) : VR0 (R.ren σ own) x v := by
  have rd : ∀ {k0 : IntKind} {xs : List Int} {ad : Addr}, Rd R k0 xs ad → Rd (R.ren σ own) k0 xs ad := fun h => ⟨h.cell, fun hb => h.far (ho _ hb)⟩
  cases x with
  | sli k0 xs =>
    obtain ⟨ad, cap, hv, h1, h2, h3, h4⟩ := h
    exact ⟨ad, cap, hv, h1, h2, h3, fun hne => let ⟨ad, ha, hr⟩ := h4 hne; ⟨ad, ha, rd hr⟩⟩
  | rpi k0 xs i =>
    obtain ⟨ad, j, x, h1, h2, h3, h4, h5, h6⟩ := h
    exact ⟨ad, j, x, h1, h2, h3, h4, h5, fun hb => h6 (ho _ hb)⟩
  | rpa k0 xs =>
    obtain ⟨h1, p, hp, h2⟩ := h
    exact ⟨h1, p, hp, fun hne => let ⟨ad, ha, hr⟩ := h2 hne; ⟨ad, ha, rd hr⟩⟩
  | itd f k xs =>
    obtain ⟨ad, u, h1, h2, h3, a, cap, h4, h5, h6, h7, h8⟩ := h
    exact ⟨ad, u, h1, h2, fun hb => h3 (ho _ hb), a, cap, h4, h5, h6, h7, fun hne => let ⟨ad, ha, hr⟩ := h8 hne; ⟨ad, ha, rd hr⟩⟩
  | osl nm lo len => obtain ⟨_, h⟩ := h; exact ⟨hn nm (by simp [nmOf]), h⟩
  | ptr nm off => obtain ⟨_, h⟩ := h; exact ⟨hn nm (by simp [nmOf]), h⟩
  | pti nm off i => obtain ⟨_, h⟩ := h; exact ⟨hn nm (by simp [nmOf]), h⟩
  | pta nm lo m => obtain ⟨_, h⟩ := h; exact ⟨hn nm (by simp [nmOf]), h⟩
  | _ => exact h
theorem chunky_ren (σ : List Nat) (x : AV) : chunky (ren0 σ x) = chunky x := by cases x <;> rfl
theorem ren0_arr {σ : List Nat} {x : AV} (hx : ∀ k n xs, x ≠ .arr k n xs) : ∀ k n xs, ren0 σ x ≠ .arr k n xs := by
  intro k n xs e
  cases x <;> simp [ren0] at e
  exact hx _ _ _ rfl
theorem CRL.ren {R : RC} {σ : List Nat} {own : Nat → Prop} (ho : ∀ b, own b → R.own b) : ∀ {l : List AV} {cs : List Value}, (∀ m ∈ nmsOf l, m < σ.length) → CRL R (renL σ l) cs → CRL (R.ren σ own) l cs
  | [], _, _, h => h
  | x :: l, cs, hn, h => by
    simp only [nmsOf, List.mem_append] at hn
    by_cases hx : ∃ k n xs, x = .arr k n xs
    · obtain ⟨k, n, xs, rfl⟩ := hx
      obtain ⟨cs', h1, h2, h3, h4⟩ := h
      exact ⟨cs', h1, h2, h3, CRL.ren ho (fun m hm => hn m (.inr hm)) h4⟩
    · have hx' : ∀ k n xs, x ≠ .arr k n xs := fun k n xs he => hx ⟨k, n, xs, he⟩
      simp only [renL] at h
      rw [CRL.cons (ren0_arr hx')] at h
      rw [CRL.cons hx']
      obtain ⟨v, cs', h1, h2, h3, h4, h5⟩ := h
      exact ⟨v, cs', h1, h2.ren ho (fun m hm => hn m (.inl hm)), h3, by rw [← chunky_ren σ]; exact h4, CRL.ren ho (fun m hm => hn m (.inr hm)) h5⟩
theorem VR1.ren {R : RC} {σ : List Nat} {own : Nat → Prop} (ho : ∀ b, own b → R.own b) {x : AV} {v : Value} (hn : ∀ m ∈ nms1 x, m < σ.length) (hx : ∀ l, x ≠ .tup l) (h : VR1 R (renV σ x) v) : VR1 (R.ren σ own) x v := by
  cases x with
  | agg l => obtain ⟨cs, h1, h2⟩ := h; exact ⟨cs, h1, h2.ren ho hn⟩
  | tup l => exact absurd rfl (hx l)
  | _ => simp only [VR1, renV, ren0, nms1] at hn h ⊢; exact VR0.ren ho hn h
theorem VRL.ren {R : RC} {σ : List Nat} {own : Nat → Prop} (ho : ∀ b, own b → R.own b) : ∀ {l : List AV} {vs : List Value}, (∀ m ∈ nmsIn.nms2 l, m < σ.length) → VRL R (renV.renL1 σ l) vs → VRL (R.ren σ own) l vs
  | [], _, _, h => h
  | x :: l, vs, hn, h => by
    have e : nmsIn.nms2 (x :: l) = nms1 x ++ nmsIn.nms2 l := by cases x <;> rfl
    rw [e] at hn
    by_cases hx : ∃ m, x = .tup m
    · obtain ⟨m, rfl⟩ := hx
      obtain ⟨v, vs', h1, h2, h3⟩ := h
      exact h2.elim
    have e2 : renV.renL1 σ (x :: l) = renV σ x :: renV.renL1 σ l := by cases x <;> first | rfl | exact absurd ⟨_, rfl⟩ hx
    rw [e2] at h
    obtain ⟨v, vs', h1, h2, h3⟩ := h
    exact ⟨v, vs', h1, VR1.ren ho (fun m hm => hn m (List.mem_append_left _ hm)) (fun m he => hx ⟨m, he⟩) h2, VRL.ren ho (fun m hm => hn m (List.mem_append_right _ hm)) h3⟩
theorem VR.ren {R : RC} {σ : List Nat} {own : Nat → Prop} (ho : ∀ b, own b → R.own b) {x : AV} {v : Value} (hn : ∀ m ∈ nmsIn x, m < σ.length) (h : VR R (renV σ x) v) : VR (R.ren σ own) x v := by
  cases x with
  | tup l => obtain ⟨vs, h1, h2⟩ := h; exact ⟨vs, h1, h2.ren ho hn⟩
  | agg l => exact VR1.ren (x := .agg l) ho hn (by simp) h
  | any => trivial
  | _ => simp only [VR, VR1, renV, ren0, nmsIn] at hn h ⊢; exact VR0.ren ho (by first | exact hn | (intro m hm; simp [nmOf] at hm)) h

theorem nth_renF (σ : List Nat) : ∀ (l : List AV) (t : Nat), SX.nth (renF σ l) t = renV σ (SX.nth l t)
  | [], t => rfl
  | x :: l, 0 => rfl
  | x :: l, t + 1 => nth_renF σ l t
theorem len_renF (σ : List Nat) : ∀ l : List AV, (renF σ l).length = l.length
  | [] => rfl
  | x :: l => by simp [renF, len_renF σ l]
theorem hpR_nth {σ : List Nat} {hp : List Blk} : ∀ {l : List Blk} {i : Nat}, hpR σ hp l i → ∀ j, nthB l j = .gone ∨ nthB hp (sg σ (i + j)) = renB σ (nthB l j)
  | [], _, _, j => .inl rfl
  | b :: l, i, h, 0 => h.1
  | b :: l, i, h, j + 1 => by
    have := hpR_nth h.2 j
    rw [show i + 1 + j = i + (j + 1) by omega] at this
    exact this
theorem lenAt_ren (σ : List Nat) (l : List AV) (off : Nat) : lenAt (.cells (renL σ l)) off = lenAt (.cells l) off := by
  refine lenAt_congr off ?_
  induction l with
  | nil => rfl
  | cons x l ih =>
    simp only [renL, List.map_cons, ih]
    congr 1
    cases x <;> rfl

theorem ConcL.ren {σ : List Nat} {s s' : St} {R : RC} {a : Act} (hc : ConcL O B w0 s R a) (h : Ren σ s s') : ∃ R', R'.w = R.w ∧ ConcL O B w0 s' R' a := by
  obtain ⟨hfr, hhp, hok⟩ := h
  simp only [Bool.and_eq_true, eqN_eq] at hok
  obtain ⟨⟨hlen, hdis, hlt⟩, hcl1, hcl2⟩ := hok
  rw [allLtL_iff] at hlt
  have hnth : ∀ j, nthB s'.hp j = .gone ∨ nthB s.hp (sg σ j) = renB σ (nthB s'.hp j) := fun j => by
    have := hpR_nth hhp j
    rwa [Nat.zero_add] at this
  have live : ∀ m, nthB s'.hp m ≠ .gone → nthB s.hp (sg σ m) ≠ .gone := fun m hm hg => by
    rcases hnth m with h | h
    · exact hm h
    · rw [hg] at h
      cases hb : nthB s'.hp m <;> rw [hb] at h hm <;> first | exact hm rfl | simp [renB] at h
  have inlen : ∀ m, nthB s'.hp m ≠ .gone → m < σ.length := fun m hm => by rw [← hlen]; exact nthB_lt hm
  have ho : ∀ b, (O b ∨ ∃ nm, nthB s'.hp nm ≠ .gone ∧ R.ρ (sg σ nm) = b) → R.own b := by
    rintro b (hO | ⟨nm, hg, hr⟩)
    · exact (hc.c.own b).2 (.inl hO)
    · exact (hc.c.own b).2 (.inr ⟨sg σ nm, live nm hg, hr⟩)
  refine ⟨R.ren σ (fun b => O b ∨ ∃ nm, nthB s'.hp nm ≠ .gone ∧ R.ρ (sg σ nm) = b), rfl, ⟨⟨fun t => ?_, fun t ht => ?_, ?_, fun b => Iff.rfl, hc.c.oB, fun nm => ?_, fun nm nm' hg hg' he => ?_, hc.c.bw, hc.c.df⟩, fun m => by rw [hlen]; exact Iff.rfl, hc.hB⟩⟩
  · have h1 := hc.c.tm t
    rw [hfr, nth_renF] at h1
    exact VR.ren ho (fun m hm => by rw [← hlen]; exact frB_nth hcl1 t m hm) h1
  · exact nth_big _ _ ht
  · have := hc.c.le
    rw [hfr, len_renF] at this
    exact this
  · by_cases hg : nthB s'.hp nm = .gone
    · rw [hg]; trivial
    · have hb := hc.c.bl (sg σ nm)
      rw [(hnth nm).resolve_left hg] at hb
      have hbb := hpB_nth hcl2 nm
      cases hbl : nthB s'.hp nm with
      | gone => trivial
      | cells l =>
        rw [hbl] at hb hbb
        obtain ⟨h1, h2, cs, ty, h3, h4, h5, h6⟩ := hb
        exact ⟨inlen nm hg, h2, cs, ty, h3, h4.ren ho (fun m hm => by rw [← hlen]; exact allB_iff.1 hbb m hm), h5, fun off => (h6 off).trans (lenAt_ren σ l off)⟩
      | row k xs =>
        rw [hbl] at hb
        obtain ⟨h1, h2⟩ := hb
        exact ⟨inlen nm hg, h2⟩
  · have := hc.c.inj (sg σ nm) (sg σ nm') (live nm hg) (live nm' hg') he
    exact sg_inj hdis (inlen nm hg) (inlen nm' hg') this

theorem AWP.ren (σ : List Nat) {code : Code} {s s' : St} (h : Ren σ s s') (hw : AWP na P code s' Q) : AWP na P code s Q := by
  intro O B w0 R a hna hc
  obtain ⟨R', hR, hc'⟩ := hc.ren h
  rw [← hR]
  exact hw O B w0 R' a hna hc'
end
end Go.Proofs.SX

namespace Go.Proofs.SX
open Go Go.RowKit
set_option linter.unusedVariables false
set_option linter.unusedSimpArgs false

def eqIZ : Value → Value → Bool
  | .int k x, .int k' y => Bool.and (kindEq k k') (decide (x = y))
  | .bool a, .bool b => decide (a = b)
  | .string s, .string t => decide (s = t)
  | .slice none a b, .slice none c d => Bool.and (eqN a c) (eqN b d)
  | _, _ => false
def eqIZs : List Value → List Value → Bool
  | [], [] => true
  | x :: l, y :: m => Bool.and (eqIZ x y) (eqIZs l m)
  | _, _ => false
def eqZ : Value → Value → Bool
  | .agg a, .agg b => eqIZs a.toList b.toList
  | x, y => eqIZ x y
theorem eqIZ_spec {x y : Value} (h : eqIZ x y = true) : x = y := by
  unfold eqIZ at h
  split at h
  · simp only [Bool.and_eq_true, decide_eq_true_eq] at h
    rw [kindEq_iff.1 h.1, h.2]
  · rw [of_decide_eq_true h]
  · rw [of_decide_eq_true h]
  · simp only [Bool.and_eq_true] at h
    rw [eqN_true h.1, eqN_true h.2]
  · simp at h
theorem eqIZs_spec : ∀ {x y : List Value}, eqIZs x y = true → x = y
  | [], [], _ => rfl
  | [], _ :: _, h => by simp [eqIZs] at h
  | _ :: _, [], h => by simp [eqIZs] at h
  | x :: l, y :: m, h => by
    simp only [eqIZs, Bool.and_eq_true] at h
    rw [eqIZ_spec h.1, eqIZs_spec h.2]
theorem eqZ_spec {x y : Value} (h : eqZ x y = true) : x = y := by
  unfold eqZ at h
  split at h
  · rw [Array.ext' (eqIZs_spec h)]
  · exact eqIZ_spec h

def intTyB (P : Program) (e : TypeId) (k : IntKind) : Bool :=
  match P.underlying e, P.info? e with
  | some (.int k'), some i => Bool.and (kindEq k' k) (eqN i.size 1)
  | _, _ => false
def fieldB (P : Program) (s : Sh) (t : TypeId) : Bool :=
  match P.underlying t with
  | some d => match s with
    | .arr n k => match d with
      | .array m e => Bool.and (eqN m n) (intTyB P e k)
      | _ => false
    | s => decide (aggD d = isAggSh s)
  | none => false
def fsB (P : Program) : List Sh → Nat → List Field → Bool
  | [], _, [] => true
  | s :: l, off, f :: fs => Bool.and (Bool.and (Bool.and (eqN f.offset off) (Bool.not (f.name == "_"))) (Bool.and (match P.info? f.type with | some i => eqN i.size (shSize s) | none => false) (leN 1 (shSize s)))) (Bool.and (fieldB P s f.type) (fsB P l (off + shSize s) fs))
  | _, _, _ => false
def uB (P : Program) (t : TypeId) : Sh → Bool
  | .int k => match P.underlying t with | some (.int k') => kindEq k' k | _ => false
  | .bool => match P.underlying t with | some .bool => true | _ => false
  | .str => match P.underlying t with | some .string => true | _ => false
  | .arr n k => match P.underlying t with
    | some (.array m e) => Bool.and (Bool.and (eqN m n) (intTyB P e k)) (Bool.not (P.eqGuardType P.depth t))
    | _ => false
  | .sl k => match P.underlying t with
    | some (.slice e) => match P.underlying e with
      | some (.int k') => match P.info? e with
        | some i => match i.zero with
          | some z => Bool.and (Bool.and (kindEq k' k) (eqIZ z (.int k 0))) (Bool.and (eqN i.size 1) (Bool.and (leN 1 i.bytes) (leN i.bytes 8)))
          | none => false
        | none => false
      | _ => false
    | _ => false
  | .st l => match P.underlying t with
    | some (.struct fs) => Bool.and (fsB P l 0 fs.toList) (Bool.and (Bool.not (P.eqGuardType P.depth t)) (Bool.not (P.stoodInHeld t)))
    | _ => false
  | .other => true
def tyB (P : Program) (t : TypeId) (s : Sh) : Bool :=
  match P.info? t with
  | some i => match i.zero with
    | some z => Bool.and (eqZ z (zval s)) (Bool.and (eqN i.size (shSize s)) (uB P t s))
    | none => false
  | none => false

theorem intTyB_spec {P : Program} {e : TypeId} {k : IntKind} (h : intTyB P e k = true) : IntTy P e k := by
  unfold intTyB at h
  split at h
  · rename_i k' i h1 h2
    simp only [Bool.and_eq_true] at h
    exact ⟨by rw [h1, kindEq_iff.1 h.1], by rw [h2]; simp [eqN_true h.2]⟩
  · simp at h
theorem fsB_spec {P : Program} : ∀ {l : List Sh} {off : Nat} {fs : List Field}, fsB P l off fs = true → FsOk P l off fs
  | [], _, [], _ => trivial
  | [], _, _ :: _, h => by simp [fsB] at h
  | _ :: _, _, [], h => by simp [fsB] at h
  | s :: l, off, f :: fs, h => by
    simp only [fsB, Bool.and_eq_true] at h
    obtain ⟨⟨⟨h1, h2⟩, h3, h4⟩, h5, h6⟩ := h
    refine ⟨eqN_true h1, by simpa using h2, ?_, leN_true h4, ?_, fsB_spec h6⟩
    · split at h3
      · rename_i i hi; rw [hi]; simp [eqN_true h3]
      · simp at h3
    · unfold fieldB at h5
      split at h5
      · rename_i d hd
        split at h5
        · rename_i n k
          split at h5
          · rename_i m e
            simp only [Bool.and_eq_true] at h5
            rw [eqN_true h5.1] at hd
            exact ⟨_, hd, rfl, fun n' k' he => by cases he; exact ⟨e, rfl, intTyB_spec h5.2⟩⟩
          · simp at h5
        · rename_i hne
          exact ⟨d, hd, of_decide_eq_true h5, fun n k he => absurd he (hne n k)⟩
      · simp at h5
theorem uB_spec {P : Program} {t : TypeId} {s : Sh} (h : uB P t s = true) : UOk P t s := by
  cases s with
  | int k =>
    simp only [uB] at h
    split at h
    · rename_i k' hk; rw [kindEq_iff.1 h] at hk; exact hk
    · simp at h
  | bool =>
    simp only [uB] at h
    split at h
    · rename_i hk; exact hk
    · simp at h
  | str =>
    simp only [uB] at h
    split at h
    · rename_i hk; exact hk
    · simp at h
  | arr n k =>
    simp only [uB] at h
    split at h
    · rename_i m e hk
      simp only [Bool.and_eq_true] at h
      rw [eqN_true h.1.1] at hk
      exact ⟨⟨e, hk, intTyB_spec h.1.2⟩, by simpa using h.2⟩
    · simp at h
  | sl k =>
    simp only [uB] at h
    split at h
    · rename_i e hk
      split at h
      · rename_i k' hk'
        split at h
        · rename_i i hi
          split at h
          · rename_i z hz
            simp only [Bool.and_eq_true, leN_eq] at h
            obtain ⟨⟨h1, h2⟩, h3, h4, h5⟩ := h
            rw [kindEq_iff.1 h1] at hk'
            refine ⟨e, hk, hk', i.bytes, ?_, h4, h5⟩
            rw [hi]
            simp [hz, eqIZ_spec h2, eqN_true h3]
          · simp at h
        · simp at h
      · simp at h
    · simp at h
  | st l =>
    simp only [uB] at h
    split at h
    · rename_i fs hk
      simp only [Bool.and_eq_true] at h
      exact ⟨⟨fs, hk, fsB_spec h.1⟩, by simpa using h.2.1, by simpa using h.2.2⟩
    · simp at h
  | other => trivial
theorem tyB_spec {P : Program} {t : TypeId} {s : Sh} (h : tyB P t s = true) : TyOk P t s := by
  have key : (P.info? t).map (fun i => (i.zero, i.size)) = some (some (zval s), shSize s) ∧ UOk P t s := by
    unfold tyB at h
    split at h
    · rename_i i hi
      split at h
      · rename_i z hz
        simp only [Bool.and_eq_true] at h
        refine ⟨?_, uB_spec h.2.2⟩
        rw [hi]
        simp [hz, eqZ_spec h.1, eqN_true h.2.1]
      · simp at h
    · simp at h
  cases s <;> first | exact key | trivial

def tyTab : List (TypeId × Sh) → TypeId → Sh
  | [], _ => .other
  | (k, s) :: l, t => bif eqN t k then s else tyTab l t
def tysB (P : Program) : List (TypeId × Sh) → Bool
  | [] => true
  | (k, s) :: l => Bool.and (tyB P k s) (tysB P l)
theorem tys_ok {P : Program} : ∀ {l : List (TypeId × Sh)}, tysB P l = true → ∀ t, TyOk P t (tyTab l t)
  | [], _, t => trivial
  | (k, s) :: l, h, t => by
    simp only [tysB, Bool.and_eq_true] at h
    simp only [tyTab]
    cases hb : eqN t k with
    | true => rw [eqN_true hb]; exact tyB_spec h.1
    | false => exact tys_ok h.2 t

/-- A contract that holds. -/
def Holds (P : Program) (f : FuncId) (g : List AV → Option (AV × Ob)) : Prop := ∀ args r ob, g args = some (r, ob) → Obs ob → FCall P f args r

def cTab : List (FuncId × (List AV → Option (AV × Ob))) → FuncId → Option Con
  | [], _ => none
  | (k, g) :: l, f => bif eqN f k then some (.fn g) else cTab l f
def allHold (P : Program) : List (FuncId × (List AV → Option (AV × Ob))) → Prop
  | [] => True
  | (k, g) :: l => Holds P k g ∧ allHold P l
/-- A contract of a function that turns its first argument's numbers holds. -/
def HoldsM (P : Program) (f : FuncId) (g : IntKind → List Int → Int → Int → List AV → Option (AV × List Int × Ob)) : Prop := ∀ k xs lo len args r xs' ob, g k xs lo len args = some (r, xs', ob) → Obs ob → MCall P f k xs lo len args r xs'
def conTab : List (FuncId × Con) → FuncId → Option Con
  | [], _ => none
  | (k, g) :: l, f => bif eqN f k then some g else conTab l f
def conHolds (P : Program) (f : FuncId) : Con → Prop
  | .fn g => Holds P f g
  | .mut g => HoldsM P f g
def allCon (P : Program) : List (FuncId × Con) → Prop
  | [] => True
  | (k, g) :: l => conHolds P k g ∧ allCon P l
theorem con_ok {P : Program} : ∀ {l : List (FuncId × Con)}, allCon P l → GOk P (conTab l)
  | [], _ => ⟨fun f g args r ob h _ _ => by simp [conTab] at h, fun f g k xs lo len args r xs' ob h _ _ => by simp [conTab] at h⟩
  | (k, g0) :: l, hl => by
    refine ⟨fun f g args r ob h hg ho => ?_, fun f g k xs lo len args r xs' ob h hg ho => ?_⟩
    · simp only [conTab] at h
      cases hb : eqN f k with
      | true =>
        rw [hb] at h
        simp only [cond_true, Option.some.injEq] at h
        subst h
        rw [eqN_true hb]
        exact hl.1 args r ob hg ho
      | false =>
        rw [hb] at h
        exact (con_ok hl.2).fn f g args r ob h hg ho
    · rename_i k0
      simp only [conTab] at h
      cases hb : eqN f k0 with
      | true =>
        rw [hb] at h
        simp only [cond_true, Option.some.injEq] at h
        subst h
        rw [eqN_true hb]
        exact hl.1 k xs lo len args r xs' ob hg ho
      | false =>
        rw [hb] at h
        exact (con_ok hl.2).mt f g k xs lo len args r xs' ob h hg ho
theorem cs_ok {P : Program} : ∀ {l : List (FuncId × (List AV → Option (AV × Ob)))}, allHold P l → GOk P (cTab l)
  | [], _ => ⟨fun f g args r ob h _ _ => by simp [cTab] at h, fun f g k xs lo len args r xs' ob h _ _ => by simp [cTab] at h⟩
  | (k, g0) :: l, hl => by
    refine ⟨fun f g args r ob h hg ho => ?_, fun f g k' xs lo len args r xs' ob h hg ho => ?_⟩
    · simp only [cTab] at h
      cases hb : eqN f k with
      | true =>
        rw [hb] at h
        simp only [cond_true, Option.some.injEq, Con.fn.injEq] at h
        subst h
        rw [eqN_true hb]
        exact hl.1 args r ob hg ho
      | false =>
        rw [hb] at h
        exact (cs_ok hl.2).fn f g args r ob h hg ho
    · simp only [cTab] at h
      cases hb : eqN f k with
      | true =>
        rw [hb] at h
        simp at h
      | false =>
        rw [hb] at h
        exact (cs_ok hl.2).mt f g k' xs lo len args r xs' ob h hg ho

/-! ### Contracts of plain values -/
def normL (A : Ar) : List AV → List AV
  | [] => []
  | x :: l => norm A x :: normL A l

theorem VRL.norm {R : RC} : ∀ {l : List AV} {vs : List Value}, VRL R l vs → VRL R (normL stdAr l) vs
  | [], _, h => h
  | x :: l, vs, h => by
    obtain ⟨v, vs', h1, h2, h3⟩ := h
    exact ⟨v, vs', h1, h2.norm, VRL.norm h3⟩
theorem Holds.norm {P : Program} {f : FuncId} {g : List AV → Option (AV × Ob)} (h : Holds P f g) : Holds P f (fun l => g (normL stdAr l)) := by
  intro args r ob hg ho own w vs hown hvs
  exact h _ r ob hg ho own w vs hown hvs.norm

/-- A function without a body. -/
theorem FCall.of_extern {P : Program} {f : FuncId} {fn : Func} {e : Array Value → Sem Value} {args : List AV} {r : AV} (hf : P.funcs[f]? = some fn) (hb : fn.body = none) (hname : (fn.name == "runtime.NumGoroutine") = false)
    (hn : (Extern.findNext fn).isNone = true) (he : Extern.find fn = some e)
    (h : ∀ own w vs, VRL (RC0 own w) args vs → ∃ v, (e vs.toArray).run P w = .ok v w ∧ VR (RC0 own w) r v) : FCall P f args r := by
  intro own w vs hown hvs
  obtain ⟨v, h1, h2⟩ := h own w vs hvs
  have hn' : Extern.findNext fn = none := by simpa using hn
  have hname' : ¬ fn.name = "runtime.NumGoroutine" := by simpa using hname
  have hrun : (callFunc f vs.toArray).run P w = .ok (.value v) w := by
    unfold callFunc
    simp [hf, hname', hb, hn', he, h1]
  unfold CallsX
  rw [hrun]
  exact ⟨v, rfl, h2, Below.refl _ _⟩

/-! ### A whole function by the executor -/
def xfun (c : Cx) (n : Nat) (fn : Func) (args : List AV) (ds : List Bool) : Option (AV × Ob) :=
  match fn.body with
  | some code => match xcode c n code ⟨⟨args ++ List.replicate (fn.ntmps - args.length) .any, []⟩, ds, []⟩ with
    | some (.exit _, _) => none
    | some (_, r) => match resOf c r.s fn.results.toList with
      | some v => some (v, r.ob)
      | none => none
    | none => none
  | none => none
/-- What is to be shown of what the executor came to. -/
def Post (r : Option (AV × Ob)) (v : AV) : Prop :=
  match r with
  | some (u, ob) => Obs ob ∧ u = v
  | none => False

theorem FCall.exec {P : Program} {c : Cx} (k : COk P c) {f : FuncId} {fn : Func} {args : List AV} {r : AV} (n : Nat) (ds : List Bool) (hf : P.funcs[f]? = some fn) (hname : (fn.name == "runtime.NumGoroutine") = false) (hnt : noTup args = true)
    (h : (∃ own w vs, VRL (RC0 own w) args vs) → Post (xfun c n fn args ds) r) (hcn : c.na = false := by rfl) : FCall P f args r := by
  intro own w vs hown hvs
  have hp := h ⟨own, w, vs, hvs⟩
  unfold Post at hp
  split at hp
  · rename_i u ob hx
    obtain ⟨ho, rfl⟩ := hp
    unfold xfun at hx
    split at hx
    · rename_i code hb
      refine FCall.of_body k hf hb hname hnt (fun _ => ?_) own w vs hown hvs
      split at hx
      · simp at hx
      · rename_i x r1 hx1 hr
        split at hx
        · rename_i v hv
          simp only [Option.some.injEq, Prod.mk.injEq] at hx
          obtain ⟨rfl, rfl⟩ := hx
          exact AWP.exec k hcn hr ho ⟨fun id he => hx1 id he, hv⟩
        · simp at hx
      · simp at hx
    · simp at hx
  · exact hp.elim

theorem VRL.arr1 {R : RC} {k : IntKind} {n : Nat} {xs : List Int} {l : List AV} {vs : List Value} (h : VRL R (.arr k n xs :: l) vs) : xs.length = n ∧ RgL k xs ∧ ∃ vs', VRL R l vs' := by
  obtain ⟨v, vs', _, h1, h2⟩ := h
  exact ⟨h1.2.1, h1.2.2, vs', h2⟩
theorem VRL.int1 {R : RC} {k : IntKind} {x : Int} {l : List AV} {vs : List Value} (h : VRL R (.int k x :: l) vs) : Rg k x ∧ ∃ vs', VRL R l vs' := by
  obtain ⟨v, vs', _, h1, h2⟩ := h
  exact ⟨h1.2, vs', h2⟩
end Go.Proofs.SX

namespace Go.Proofs.SX
open Go Go.RowKit
set_option linter.unusedVariables false
set_option linter.unusedSimpArgs false
set_option maxRecDepth 4000

theorem wrap_u64' (x : Int) : IntKind.wrap .u64 x = x % 18446744073709551616 := by
  simp [IntKind.wrap, IntKind.bits, IntKind.signed]
theorem wrap_u8' (x : Int) : IntKind.wrap .u8 x = x % 256 := by
  simp [IntKind.wrap, IntKind.bits, IntKind.signed]
theorem wrap_i64' (x : Int) (h : -9223372036854775808 ≤ x ∧ x < 9223372036854775808) : IntKind.wrap .i64 x = x := by
  have := (rg_iff .i64 x).2 (by simp [IntKind.min, IntKind.max, IntKind.bits, IntKind.signed]; omega)
  exact this
theorem rg64 {x : Int} : Rg .u64 x ↔ 0 ≤ x ∧ x < 18446744073709551616 := by
  rw [rg_iff]; simp [IntKind.min, IntKind.max, IntKind.bits, IntKind.signed]; omega
theorem rg8 {x : Int} : Rg .u8 x ↔ 0 ≤ x ∧ x < 256 := by
  rw [rg_iff]; simp [IntKind.min, IntKind.max, IntKind.bits, IntKind.signed]; omega

theorem s_ofNat (n : Nat) : stdAr.ofNat n = (n : Int) := rfl
theorem nc0 : ((0 : Nat) : Int) = 0 := rfl
theorem nc1 : ((1 : Nat) : Int) = 1 := rfl
theorem nc4 : ((4 : Nat) : Int) = 4 := rfl
theorem nc8 : ((8 : Nat) : Int) = 8 := rfl
theorem s_plus (x y : Int) : stdAr.plus x y = x + y := rfl
theorem s_len (xs : List Int) : stdAr.len xs = xs.length := rfl
theorem s_rd (xs : List Int) (i : Int) : stdAr.rd xs i = xs.getD i.toNat 0 := rfl
theorem s_set (xs : List Int) (i v : Int) : stdAr.set xs i v = xs.set i.toNat v := rfl
theorem s_eql (x y : Int) : stdAr.cmp .eql x y = (x == y) := rfl
theorem s_neq (x y : Int) : stdAr.cmp .neq x y = (x != y) := rfl
theorem s_lss (x y : Int) : stdAr.cmp .lss x y = decide (x < y) := rfl
theorem s_leq (x y : Int) : stdAr.cmp .leq x y = decide (x ≤ y) := rfl
theorem s_gtr (x y : Int) : stdAr.cmp .gtr x y = decide (x > y) := rfl
theorem s_geq (x y : Int) : stdAr.cmp .geq x y = decide (x ≥ y) := rfl
theorem s_not (b : Bool) : stdAr.not b = !b := rfl
theorem s_and (a b : Bool) : stdAr.and a b = (a && b) := rfl
theorem s_eqs (a b : List Int) : stdAr.eqs a b = (a == b) := rfl
theorem s_zeros (n : Nat) : stdAr.zeros n = List.replicate n 0 := rfl
theorem s_wrap (k : IntKind) (x : Int) : stdAr.wrap k x = k.wrap x := rfl
theorem s_add (k : IntKind) (x y : Int) : stdAr.bin .add k x y = k.wrap (x + y) := rfl
theorem s_sub (k : IntKind) (x y : Int) : stdAr.bin .sub k x y = k.wrap (x - y) := rfl
theorem s_mul (k : IntKind) (x y : Int) : stdAr.bin .mul k x y = k.wrap (x * y) := rfl

theorem obs_nil : Obs [] := fun _ h => by cases h
theorem obs_cons {a b : Bool} {l : Ob} (h : a = b) (hl : Obs l) : Obs ((a, b) :: l) := fun p hp => by
  rcases List.mem_cons.1 hp with rfl | hp
  · exact h
  · exact hl p hp

theorem obs_nil_iff : Obs [] ↔ True := ⟨fun _ => trivial, fun _ => obs_nil⟩
theorem obs_cons_iff {a b : Bool} {l : Ob} : Obs ((a, b) :: l) ↔ a = b ∧ Obs l := ⟨fun h => ⟨h (a, b) (by simp), fun p hp => h p (by simp [hp])⟩, fun h => obs_cons h.1 h.2⟩

/-! ### Numbers of four words -/
def val : List Int → Int
  | [] => 0
  | x :: l => x + 18446744073709551616 * val l
def enc4 (n : Int) : List Int := [n % 18446744073709551616, n / 18446744073709551616 % 18446744073709551616, n / 340282366920938463463374607431768211456 % 18446744073709551616, n / 6277101735386680763835789423207666416102355444464034512896 % 18446744073709551616]

theorem words4 {xs : List Int} (h : xs.length = 4) (hr : RgL .u64 xs) : ∃ a b c d, xs = [a, b, c, d] ∧ (0 ≤ a ∧ a < 18446744073709551616) ∧ (0 ≤ b ∧ b < 18446744073709551616) ∧ (0 ≤ c ∧ c < 18446744073709551616) ∧ (0 ≤ d ∧ d < 18446744073709551616) := by
  match xs, h with
  | [a, b, c, d], _ => exact ⟨a, b, c, d, rfl, rg64.1 (hr a (by simp)), rg64.1 (hr b (by simp)), rg64.1 (hr c (by simp)), rg64.1 (hr d (by simp))⟩
theorem val4 (a b c d : Int) : val [a, b, c, d] = a + 18446744073709551616 * b + 340282366920938463463374607431768211456 * c + 6277101735386680763835789423207666416102355444464034512896 * d := by
  simp only [val]; omega
theorem enc4_of {a b c d n : Int} (ha : 0 ≤ a ∧ a < 18446744073709551616) (hb : 0 ≤ b ∧ b < 18446744073709551616) (hc : 0 ≤ c ∧ c < 18446744073709551616) (hd : 0 ≤ d ∧ d < 18446744073709551616)
    (h : a + 18446744073709551616 * b + 340282366920938463463374607431768211456 * c + 6277101735386680763835789423207666416102355444464034512896 * d = n) : [a, b, c, d] = enc4 n := by
  subst h
  unfold enc4
  congr 1
  · omega
  congr 1
  · omega
  congr 1
  · omega
  congr 1
  · omega
theorem val_enc4 {n : Int} (h : 0 ≤ n ∧ n < 115792089237316195423570985008687907853269984665640564039457584007913129639936) : val (enc4 n) = n := by
  unfold enc4; rw [val4]; omega
theorem enc4_val {xs : List Int} (h : xs.length = 4) (hr : RgL .u64 xs) : enc4 (val xs) = xs ∧ 0 ≤ val xs ∧ val xs < 115792089237316195423570985008687907853269984665640564039457584007913129639936 := by
  obtain ⟨a, b, c, d, rfl, ha, hb, hc, hd⟩ := words4 h hr
  rw [val4]
  refine ⟨(enc4_of ha hb hc hd rfl).symm, ?_, ?_⟩ <;> omega

/-! ### Sums and products of words -/
def adV (x y c : Int) : Int := (x + y + c) % 18446744073709551616
def caV (x y c : Int) : Int := (x + y + c) / 18446744073709551616
def sbV (x y c : Int) : Int := (x - y - c) % 18446744073709551616
def boV (x y c : Int) : Int := if x < y + c then 1 else 0
def hiV (x y : Int) : Int := x * y / 18446744073709551616
def loV (x y : Int) : Int := x * y % 18446744073709551616

def gCarry (A : Ar) (ad ca : Int → Int → Int → Int) : List AV → Option (AV × Ob) := fun l => match normL A l with
  | [.int .u64 x, .int .u64 y, .int .u64 c] => some (.tup [.int .u64 (ad x y c), .int .u64 (ca x y c)], [(A.cmp .leq c 1, true)])
  | _ => none
def gTwo (A : Ar) (h l : Int → Int → Int) : List AV → Option (AV × Ob) := fun a => match normL A a with
  | [.int .u64 x, .int .u64 y] => some (.tup [.int .u64 (h x y), .int .u64 (l x y)], [])
  | _ => none
theorem ints3 {R : RC} {k1 k2 k3 : IntKind} {x y z : Int} {vs : List Value} (h : VRL R [.int k1 x, .int k2 y, .int k3 z] vs) : vs = [.int k1 x, .int k2 y, .int k3 z] ∧ Rg k1 x ∧ Rg k2 y ∧ Rg k3 z := by
  obtain ⟨v, vs', rfl, ⟨rfl, h1⟩, v2, vs2, rfl, ⟨rfl, h2⟩, v3, vs3, rfl, ⟨rfl, h3⟩, h4⟩ := h
  have : vs3 = [] := h4
  subst this
  exact ⟨rfl, h1, h2, h3⟩
theorem ints2 {R : RC} {k1 k2 : IntKind} {x y : Int} {vs : List Value} (h : VRL R [.int k1 x, .int k2 y] vs) : vs = [.int k1 x, .int k2 y] ∧ Rg k1 x ∧ Rg k2 y := by
  obtain ⟨v, vs', rfl, ⟨rfl, h1⟩, v2, vs2, rfl, ⟨rfl, h2⟩, h4⟩ := h
  have : vs2 = [] := h4
  subst this
  exact ⟨rfl, h1, h2⟩
theorem VR.two {R : RC} {k1 k2 : IntKind} {x y : Int} (h1 : Rg k1 x) (h2 : Rg k2 y) : VR R (.tup [.int k1 x, .int k2 y]) (.tuple #[.int k1 x, .int k2 y]) :=
  ⟨[.int k1 x, .int k2 y], rfl, _, _, rfl, ⟨rfl, h1⟩, _, _, rfl, ⟨rfl, h2⟩, rfl⟩

def sub64Entry : Array Value → Sem Value := fun args => do
  let (x, y, b) ← Extern.MathBitsCarry.three "Sub64" args
  pure (Extern.MathBitsCarry.pair ((x + Extern.MathBitsCarry.m64 - y - b) % Extern.MathBitsCarry.m64) (if x < y + b then 1 else 0))
theorem run_sub64 {P : Program} (x y c : Int) (hx : 0 ≤ x ∧ x < 18446744073709551616) (hy : 0 ≤ y ∧ y < 18446744073709551616) (hc0 : 0 ≤ c) (hc : c ≤ 1) (w : World) :
    (sub64Entry #[.int .u64 x, .int .u64 y, .int .u64 c]).run P w = .ok (.tuple #[.int .u64 (sbV x y c), .int .u64 (boV x y c)]) w := by
  have key : ∀ k : Nat, k ≤ 1 → (sub64Entry #[.int .u64 x, .int .u64 y, .int .u64 (k : Int)]).run P w =
      .ok (Extern.MathBitsCarry.pair ((x.toNat + Extern.MathBitsCarry.m64 - y.toNat - k) % Extern.MathBitsCarry.m64) (if x.toNat < y.toNat + k then 1 else 0)) w := by
    intro k hk
    have : k = 0 ∨ k = 1 := by omega
    rcases this with rfl | rfl <;> rfl
  obtain ⟨k, rfl⟩ := Int.eq_ofNat_of_zero_le hc0
  rw [key k (by omega)]
  obtain ⟨X, rfl⟩ := Int.eq_ofNat_of_zero_le hx.1
  obtain ⟨Y, rfl⟩ := Int.eq_ofNat_of_zero_le hy.1
  simp only [Extern.MathBitsCarry.pair, Extern.MathBitsCarry.m64, Int.toNat_natCast, sbV, boV]
  have e1 : (Int.ofNat ((X + 2 ^ 64 - Y - k) % 2 ^ 64) : Int) = ((X : Int) - Y - k) % 18446744073709551616 := by
    simp; omega
  have e2 : (Int.ofNat (if X < Y + k then 1 else 0) : Int) = if (X : Int) < Y + k then 1 else 0 := by
    by_cases h : X < Y + k
    · rw [if_pos h, if_pos (by omega)]; rfl
    · rw [if_neg h, if_neg (by omega)]; rfl
  rw [e1, e2]

theorem holds_add64 {P : Program} {f : FuncId} {fn : Func} (hf : P.funcs[f]? = some fn) (hb : fn.body = none) (hname : (fn.name == "runtime.NumGoroutine") = false) (hn : (Extern.findNext fn).isNone = true) (he : Extern.find fn = some add64Entry) : Holds P f (gCarry stdAr adV caV) := by
  refine Holds.norm (g := fun l => match l with | [.int .u64 x, .int .u64 y, .int .u64 c] => some (.tup [.int .u64 (adV x y c), .int .u64 (caV x y c)], [(stdAr.cmp .leq c 1, true)]) | _ => none) ?_
  intro args r ob hg ho
  dsimp only at hg
  split at hg
  · rename_i x y c
    simp only [Option.some.injEq, Prod.mk.injEq] at hg
    obtain ⟨rfl, rfl⟩ := hg
    have hc := ho _ (List.mem_singleton.2 rfl)
    simp only [s_leq, decide_eq_true_eq] at hc
    refine FCall.of_extern hf hb hname hn he fun own w vs h => ?_
    obtain ⟨rfl, h1, h2, h3⟩ := ints3 h
    rw [rg64] at h1 h2 h3
    refine ⟨_, run_add64 x y c h1.1 h2.1 h3.1 hc w, VR.two ?_ ?_⟩
    · rw [rg64]; unfold adV; omega
    · rw [rg64]; unfold caV; omega
  · simp at hg
theorem holds_sub64 {P : Program} {f : FuncId} {fn : Func} (hf : P.funcs[f]? = some fn) (hb : fn.body = none) (hname : (fn.name == "runtime.NumGoroutine") = false) (hn : (Extern.findNext fn).isNone = true) (he : Extern.find fn = some sub64Entry) : Holds P f (gCarry stdAr sbV boV) := by
  refine Holds.norm (g := fun l => match l with | [.int .u64 x, .int .u64 y, .int .u64 c] => some (.tup [.int .u64 (sbV x y c), .int .u64 (boV x y c)], [(stdAr.cmp .leq c 1, true)]) | _ => none) ?_
  intro args r ob hg ho
  dsimp only at hg
  split at hg
  · rename_i x y c
    simp only [Option.some.injEq, Prod.mk.injEq] at hg
    obtain ⟨rfl, rfl⟩ := hg
    have hc := ho _ (List.mem_singleton.2 rfl)
    simp only [s_leq, decide_eq_true_eq] at hc
    refine FCall.of_extern hf hb hname hn he fun own w vs h => ?_
    obtain ⟨rfl, h1, h2, h3⟩ := ints3 h
    rw [rg64] at h1 h2 h3
    refine ⟨_, run_sub64 x y c h1 h2 h3.1 hc w, VR.two ?_ ?_⟩
    · rw [rg64]; unfold sbV; omega
    · rw [rg64]; unfold boV; split <;> omega
  · simp at hg
end Go.Proofs.SX

namespace Go.Proofs.SX
open Go Go.RowKit
set_option linter.unusedVariables false

abbrev LI := List Int
def g0 (v : AV) : List AV → Option (AV × Ob) := fun l => match l with | [] => some (v, []) | _ => none
def gI_E (A : Ar) (f : Int → LI) : List AV → Option (AV × Ob) := fun l => match normL A l with | [.int .u64 x] => some (.arr .u64 4 (f x), []) | _ => none
def gE_E (f : LI → LI) : List AV → Option (AV × Ob) := fun l => match l with | [.arr .u64 4 a] => some (.arr .u64 4 (f a), []) | _ => none
def gEE_E (f : LI → LI → LI) : List AV → Option (AV × Ob) := fun l => match l with | [.arr .u64 4 a, .arr .u64 4 b] => some (.arr .u64 4 (f a b), []) | _ => none
def gEE_EI (f : LI → LI → LI) (g : LI → LI → Int) : List AV → Option (AV × Ob) := fun l => match l with | [.arr .u64 4 a, .arr .u64 4 b] => some (.tup [.arr .u64 4 (f a b), .int .u64 (g a b)], []) | _ => none
def gE_EI (f : LI → LI) (g : LI → Int) : List AV → Option (AV × Ob) := fun l => match l with | [.arr .u64 4 a] => some (.tup [.arr .u64 4 (f a), .int .u64 (g a)], []) | _ => none
def gEE_EE (f g : LI → LI → LI) : List AV → Option (AV × Ob) := fun l => match l with | [.arr .u64 4 a, .arr .u64 4 b] => some (.tup [.arr .u64 4 (f a b), .arr .u64 4 (g a b)], []) | _ => none
def gEE_EB (f : LI → LI → LI) (g : LI → LI → Bool) : List AV → Option (AV × Ob) := fun l => match l with | [.arr .u64 4 a, .arr .u64 4 b] => some (.tup [.arr .u64 4 (f a b), .bool (g a b)], []) | _ => none
def gEE_B (g : LI → LI → Bool) : List AV → Option (AV × Ob) := fun l => match l with | [.arr .u64 4 a, .arr .u64 4 b] => some (.bool (g a b), []) | _ => none
def gE_EB (f : LI → LI) (g : LI → Bool) : List AV → Option (AV × Ob) := fun l => match l with | [.arr .u64 4 a] => some (.tup [.arr .u64 4 (f a), .bool (g a)], []) | _ => none
def gE_32 (f : LI → LI) : List AV → Option (AV × Ob) := fun l => match l with | [.arr .u64 4 a] => some (.arr .u8 32 (f a), []) | _ => none
def g32_EB (f : LI → LI) (g : LI → Bool) : List AV → Option (AV × Ob) := fun l => match l with | [.arr .u8 32 a] => some (.tup [.arr .u64 4 (f a), .bool (g a)], []) | _ => none
def gE_8 (f : LI → LI) : List AV → Option (AV × Ob) := fun l => match l with | [.arr .u64 4 a] => some (.arr .u64 8 (f a), []) | _ => none
def gEE_16 (f : LI → LI → LI) : List AV → Option (AV × Ob) := fun l => match l with | [.arr .u64 4 a, .arr .u64 4 b] => some (.arr .u64 16 (f a b), []) | _ => none
def gS8_E (f : LI → LI) : List AV → Option (AV × Ob) := fun l => match l with | [.sli .u8 a] => some (.arr .u64 4 (f a), []) | _ => none

section
variable {P : Program} {f : FuncId}
theorem FCall.known {args : List AV} {r : AV} (h : (∃ own w vs, VRL (RC0 own w) args vs) → FCall P f args r) : FCall P f args r :=
  fun own w vs ho hvs => h ⟨own, w, vs, hvs⟩ own w vs ho hvs
theorem holds_0 {v : AV} (h : FCall P f [] v) : Holds P f (g0 v) := by
  intro args r ob hg ho
  unfold g0 at hg
  split at hg
  · simp only [Option.some.injEq, Prod.mk.injEq] at hg; obtain ⟨rfl, rfl⟩ := hg; exact h
  · simp at hg
theorem holds_I_E {F : Int → LI} (h : ∀ x, (0 ≤ x ∧ x < 18446744073709551616) → FCall P f [.int .u64 x] (.arr .u64 4 (F x))) : Holds P f (gI_E stdAr F) := by
  refine Holds.norm (g := fun l => match l with | [.int .u64 x] => some (.arr .u64 4 (F x), []) | _ => none) ?_
  intro args r ob hg ho
  dsimp only at hg
  split at hg
  · rename_i x
    simp only [Option.some.injEq, Prod.mk.injEq] at hg; obtain ⟨rfl, rfl⟩ := hg
    exact FCall.known fun ⟨own, w, vs, hv⟩ => h x (rg64.1 hv.int1.1)
  · simp at hg
/-- A number of four words. -/
def E4 (a : LI) : Prop := a.length = 4 ∧ RgL .u64 a
theorem known1 {k : IntKind} {n : Nat} {a : LI} {l : List AV} (h : ∃ own w vs, VRL (RC0 own w) (.arr k n a :: l) vs) : (a.length = n ∧ RgL k a) ∧ ∃ own w vs, VRL (RC0 own w) l vs := by
  obtain ⟨own, w, vs, h⟩ := h
  exact ⟨⟨h.arr1.1, h.arr1.2.1⟩, own, w, h.arr1.2.2⟩
theorem one_of {r : AV} {a : LI} (h : E4 a → FCall P f [.arr .u64 4 a] r) : FCall P f [.arr .u64 4 a] r := FCall.known fun hk => h (known1 hk).1
theorem two_of {r : AV} {a b : LI} (h : E4 a → E4 b → FCall P f [.arr .u64 4 a, .arr .u64 4 b] r) : FCall P f [.arr .u64 4 a, .arr .u64 4 b] r :=
  FCall.known fun hk => h (known1 hk).1 (known1 (known1 hk).2).1
theorem holds_E_E {F : LI → LI} (h : ∀ a, E4 a → FCall P f [.arr .u64 4 a] (.arr .u64 4 (F a))) : Holds P f (gE_E F) := by
  intro args r ob hg ho
  unfold gE_E at hg
  split at hg
  · simp only [Option.some.injEq, Prod.mk.injEq] at hg; obtain ⟨rfl, rfl⟩ := hg; exact one_of (h _)
  · simp at hg
theorem holds_E_EI {F : LI → LI} {G : LI → Int} (h : ∀ a, E4 a → FCall P f [.arr .u64 4 a] (.tup [.arr .u64 4 (F a), .int .u64 (G a)])) : Holds P f (gE_EI F G) := by
  intro args r ob hg ho
  unfold gE_EI at hg
  split at hg
  · simp only [Option.some.injEq, Prod.mk.injEq] at hg; obtain ⟨rfl, rfl⟩ := hg; exact one_of (h _)
  · simp at hg
theorem holds_E_EB {F : LI → LI} {G : LI → Bool} (h : ∀ a, E4 a → FCall P f [.arr .u64 4 a] (.tup [.arr .u64 4 (F a), .bool (G a)])) : Holds P f (gE_EB F G) := by
  intro args r ob hg ho
  unfold gE_EB at hg
  split at hg
  · simp only [Option.some.injEq, Prod.mk.injEq] at hg; obtain ⟨rfl, rfl⟩ := hg; exact one_of (h _)
  · simp at hg
theorem holds_E_32 {F : LI → LI} (h : ∀ a, E4 a → FCall P f [.arr .u64 4 a] (.arr .u8 32 (F a))) : Holds P f (gE_32 F) := by
  intro args r ob hg ho
  unfold gE_32 at hg
  split at hg
  · simp only [Option.some.injEq, Prod.mk.injEq] at hg; obtain ⟨rfl, rfl⟩ := hg; exact one_of (h _)
  · simp at hg
theorem holds_E_8 {F : LI → LI} (h : ∀ a, E4 a → FCall P f [.arr .u64 4 a] (.arr .u64 8 (F a))) : Holds P f (gE_8 F) := by
  intro args r ob hg ho
  unfold gE_8 at hg
  split at hg
  · simp only [Option.some.injEq, Prod.mk.injEq] at hg; obtain ⟨rfl, rfl⟩ := hg; exact one_of (h _)
  · simp at hg
theorem holds_EE_E {F : LI → LI → LI} (h : ∀ a b, E4 a → E4 b → FCall P f [.arr .u64 4 a, .arr .u64 4 b] (.arr .u64 4 (F a b))) : Holds P f (gEE_E F) := by
  intro args r ob hg ho
  unfold gEE_E at hg
  split at hg
  · simp only [Option.some.injEq, Prod.mk.injEq] at hg; obtain ⟨rfl, rfl⟩ := hg; exact two_of (h _ _)
  · simp at hg
theorem holds_EE_EI {F : LI → LI → LI} {G : LI → LI → Int} (h : ∀ a b, E4 a → E4 b → FCall P f [.arr .u64 4 a, .arr .u64 4 b] (.tup [.arr .u64 4 (F a b), .int .u64 (G a b)])) : Holds P f (gEE_EI F G) := by
  intro args r ob hg ho
  unfold gEE_EI at hg
  split at hg
  · simp only [Option.some.injEq, Prod.mk.injEq] at hg; obtain ⟨rfl, rfl⟩ := hg; exact two_of (h _ _)
  · simp at hg
theorem holds_EE_EE {F G : LI → LI → LI} (h : ∀ a b, E4 a → E4 b → FCall P f [.arr .u64 4 a, .arr .u64 4 b] (.tup [.arr .u64 4 (F a b), .arr .u64 4 (G a b)])) : Holds P f (gEE_EE F G) := by
  intro args r ob hg ho
  unfold gEE_EE at hg
  split at hg
  · simp only [Option.some.injEq, Prod.mk.injEq] at hg; obtain ⟨rfl, rfl⟩ := hg; exact two_of (h _ _)
  · simp at hg
theorem holds_EE_EB {F : LI → LI → LI} {G : LI → LI → Bool} (h : ∀ a b, E4 a → E4 b → FCall P f [.arr .u64 4 a, .arr .u64 4 b] (.tup [.arr .u64 4 (F a b), .bool (G a b)])) : Holds P f (gEE_EB F G) := by
  intro args r ob hg ho
  unfold gEE_EB at hg
  split at hg
  · simp only [Option.some.injEq, Prod.mk.injEq] at hg; obtain ⟨rfl, rfl⟩ := hg; exact two_of (h _ _)
  · simp at hg
theorem holds_EE_B {G : LI → LI → Bool} (h : ∀ a b, E4 a → E4 b → FCall P f [.arr .u64 4 a, .arr .u64 4 b] (.bool (G a b))) : Holds P f (gEE_B G) := by
  intro args r ob hg ho
  unfold gEE_B at hg
  split at hg
  · simp only [Option.some.injEq, Prod.mk.injEq] at hg; obtain ⟨rfl, rfl⟩ := hg; exact two_of (h _ _)
  · simp at hg
theorem holds_EE_16 {F : LI → LI → LI} (h : ∀ a b, E4 a → E4 b → FCall P f [.arr .u64 4 a, .arr .u64 4 b] (.arr .u64 16 (F a b))) : Holds P f (gEE_16 F) := by
  intro args r ob hg ho
  unfold gEE_16 at hg
  split at hg
  · simp only [Option.some.injEq, Prod.mk.injEq] at hg; obtain ⟨rfl, rfl⟩ := hg; exact two_of (h _ _)
  · simp at hg
theorem holds_32_EB {F : LI → LI} {G : LI → Bool} (h : ∀ a, a.length = 32 → RgL .u8 a → FCall P f [.arr .u8 32 a] (.tup [.arr .u64 4 (F a), .bool (G a)])) : Holds P f (g32_EB F G) := by
  intro args r ob hg ho
  unfold g32_EB at hg
  split at hg
  · simp only [Option.some.injEq, Prod.mk.injEq] at hg; obtain ⟨rfl, rfl⟩ := hg; exact FCall.known fun hk => h _ (known1 hk).1.1 (known1 hk).1.2
  · simp at hg
end
end Go.Proofs.SX

namespace Go.Proofs.SX
open Go Go.RowKit
set_option linter.unusedVariables false
set_option linter.unusedSimpArgs false

theorem ofInt_nat (w : Nat) (x : Nat) (h : x < 2 ^ w) : (BitVec.ofInt w (x : Int)).toNat = x := by
  simp [BitVec.ofInt_natCast, Nat.mod_eq_of_lt h]
theorem wrap_nat (x : Nat) (h : x < 18446744073709551616) : IntKind.wrap .u64 (x : Int) = x := by
  rw [wrap_u64']; omega
theorem wrap_nat8 (x : Nat) (h : x < 256) : IntKind.wrap .u8 (x : Int) = x := by
  rw [wrap_u8']; omega

/-- A mask of the low bits. -/
theorem s_and_low (n : Nat) (hn : n ≤ 64) {x m : Int} (hx : 0 ≤ x ∧ x < 18446744073709551616) (hm : m = 2 ^ n - 1) : stdAr.bin .and .u64 x m = x % 2 ^ n := by
  obtain ⟨X, rfl⟩ := Int.eq_ofNat_of_zero_le hx.1
  have hX : X < 2 ^ 64 := by omega
  have h2 : (2 : Nat) ^ n ≤ 2 ^ 64 := Nat.pow_le_pow_right (by omega) hn
  have hp : 0 < (2 : Nat) ^ n := Nat.pos_of_ne_zero (by simp)
  have hm' : m = ((2 ^ n - 1 : Nat) : Int) := by
    have e : ((2 ^ n : Nat) : Int) = 2 ^ n := by simp
    rw [hm, Int.ofNat_sub (by omega), e]; rfl
  show IntKind.wrap .u64 (((BitVec.ofInt 64 (X : Int) &&& BitVec.ofInt 64 m).toNat : Nat) : Int) = _
  rw [BitVec.toNat_and, hm', ofInt_nat 64 _ hX, ofInt_nat 64 _ (by omega), Nat.and_two_pow_sub_one_eq_mod, wrap_nat _ (by have := Nat.mod_lt X hp; omega)]
  simp
theorem s_shr (n : Nat) (hn : n ≤ 64) {x y : Int} (hx : 0 ≤ x ∧ x < 18446744073709551616) (hy : y = n) : stdAr.bin .shr .u64 x y = x / 2 ^ n := by
  subst hy
  show IntKind.wrap .u64 (x.fdiv (2 ^ (min (n : Int).toNat 64))) = _
  have hmin : min (n : Int).toNat 64 = n := by simp; omega
  have hp : (0 : Int) < 2 ^ n := Int.pow_pos (by omega)
  rw [hmin, Int.fdiv_eq_ediv_of_nonneg _ (Int.le_of_lt hp), wrap_u64']
  have h1 : 0 ≤ x / 2 ^ n := Int.ediv_nonneg hx.1 (Int.le_of_lt hp)
  have h2 : x / 2 ^ n ≤ x := Int.ediv_le_self _ hx.1
  omega
theorem s_shl (n : Nat) (hn : n ≤ 64) {x y : Int} (hy : y = n) : stdAr.bin .shl .u64 x y = x * 2 ^ n % 18446744073709551616 := by
  subst hy
  show IntKind.wrap .u64 (x * (2 ^ (min (n : Int).toNat 64))) = _
  have hmin : min (n : Int).toNat 64 = n := by simp; omega
  rw [hmin, wrap_u64']
/-- A mask that takes the highest bit away. -/
theorem s_andNot_top {x : Int} (hx : 0 ≤ x ∧ x < 18446744073709551616) : stdAr.bin .andNot .u64 x 9223372036854775808 = x % 9223372036854775808 := by
  obtain ⟨X, rfl⟩ := Int.eq_ofNat_of_zero_le hx.1
  have hX : X < 2 ^ 64 := by omega
  show IntKind.wrap .u64 (((BitVec.ofInt 64 (X : Int) &&& ~~~BitVec.ofInt 64 9223372036854775808).toNat : Nat) : Int) = _
  have e : ~~~BitVec.ofInt 64 9223372036854775808 = BitVec.ofInt 64 ((2 ^ 63 - 1 : Nat) : Int) := by decide
  rw [e, BitVec.toNat_and, ofInt_nat 64 _ hX, ofInt_nat 64 _ (by omega), Nat.and_two_pow_sub_one_eq_mod, wrap_nat _ (by omega)]
  omega

/-! ### Frames by their slots -/
def look (l : List (Nat × AV)) (t : Nat) : AV :=
  match l with
  | [] => .any
  | (k, v) :: l => bif eqN t k then v else look l t
def mkF (l : List (Nat × AV)) : Nat → Nat → List AV
  | 0, _ => []
  | n + 1, t => look l t :: mkF l n (t + 1)

theorem val_set : ∀ (l : LI) (n : Nat) (v : Int), n < l.length → val (l.set n v) = val l + (v - l.getD n 0) * 18446744073709551616 ^ n
  | [], _, _, h => by simp at h
  | x :: l, 0, v, _ => by simp [val]; omega
  | x :: l, n + 1, v, h => by
    have ih := val_set l n v (by simpa using h)
    simp only [List.set_cons_succ, val, ih, List.getD_cons_succ, Int.pow_succ]
    grind
theorem val_take_succ : ∀ (l : LI) (n : Nat), n < l.length → val (l.take (n + 1)) = val (l.take n) + l.getD n 0 * 18446744073709551616 ^ n
  | [], _, h => by simp at h
  | x :: l, 0, _ => by simp [val]
  | x :: l, n + 1, h => by
    have ih := val_take_succ l n (by simpa using h)
    simp only [List.take_succ_cons, val, ih, List.getD_cons_succ, Int.pow_succ]
    grind
theorem val_nonneg : ∀ {l : LI}, RgL .u64 l → 0 ≤ val l
  | [], _ => Int.le_refl _
  | x :: l, h => by
    have h1 := rg64.1 (h x (by simp))
    have h2 := val_nonneg (l := l) (fun y hy => h y (by simp [hy]))
    simp only [val]; omega
theorem rgL_setI {k : IntKind} {xs : LI} (h : RgL k xs) (i : Nat) {x : Int} (hx : Rg k x) : RgL k (xs.set i x) := rgL_set h i hx
theorem getD_rg {xs : LI} (h : RgL .u64 xs) (i : Nat) : 0 ≤ xs.getD i 0 ∧ xs.getD i 0 < 18446744073709551616 := by
  rw [List.getD_eq_getElem?_getD]
  cases hx : xs[i]? with
  | none => simp
  | some y => simpa using rg64.1 (rgL_get h hx)
theorem getD_set_eq (xs : LI) (i : Nat) (v : Int) (h : i < xs.length) : (xs.set i v).getD i 0 = v := by
  simp [List.getD_eq_getElem?_getD, h]
theorem getD_set_ne (xs : LI) (i j : Nat) (v : Int) (h : i ≠ j) : (xs.set i v).getD j 0 = xs.getD j 0 := by
  simp [List.getD_eq_getElem?_getD, List.getElem?_set_ne h]

/-! ### Bytes -/
theorem s_or_disj (n : Nat) (hn : n ≤ 64) {x y : Int} (hx : 0 ≤ x ∧ x < 2 ^ n) (hy : 0 ≤ y ∧ y * 2 ^ n < 18446744073709551616) : stdAr.bin .or .u64 x (y * 2 ^ n) = x + y * 2 ^ n := by
  obtain ⟨X, rfl⟩ := Int.eq_ofNat_of_zero_le hx.1
  obtain ⟨Y, rfl⟩ := Int.eq_ofNat_of_zero_le hy.1
  have e : (Y : Int) * 2 ^ n = ((Y * 2 ^ n : Nat) : Int) := by simp
  rw [e] at hy ⊢
  have h2 : (2 : Nat) ^ n ≤ 2 ^ 64 := Nat.pow_le_pow_right (by omega) hn
  have hX : X < 2 ^ n := by have := hx.2; have e2 : (2 : Int) ^ n = ((2 ^ n : Nat) : Int) := by simp
                            rw [e2] at this; omega
  have hlt : Y * 2 ^ n < 2 ^ 64 := by omega
  have hor : X ||| Y * 2 ^ n = X + Y * 2 ^ n := by
    rw [Nat.or_comm, Nat.mul_comm, ← Nat.two_pow_add_eq_or_of_lt hX, Nat.add_comm]
  have hlt2 : X + Y * 2 ^ n < 2 ^ 64 := by
    rw [← hor]; exact Nat.or_lt_two_pow (by omega) hlt
  show IntKind.wrap .u64 (((BitVec.ofInt 64 (X : Int) ||| BitVec.ofInt 64 ((Y * 2 ^ n : Nat) : Int)).toNat : Nat) : Int) = _
  rw [BitVec.toNat_or, ofInt_nat 64 _ (by omega), ofInt_nat 64 _ hlt, hor, wrap_nat _ (by omega)]
  simp
theorem s_quo {x y : Int} (hx : 0 ≤ x ∧ x < 9223372036854775808) (hy : 0 < y) : stdAr.bin .quo .i64 x y = x / y := by
  show IntKind.wrap .i64 (x.tdiv y) = _
  rw [Int.tdiv_eq_ediv_of_nonneg hx.1]
  have h1 : 0 ≤ x / y := Int.ediv_nonneg hx.1 (by omega)
  have h2 : x / y ≤ x := Int.ediv_le_self _ hx.1
  exact wrap_i64' _ (by omega)
theorem s_rem {x y : Int} (hx : 0 ≤ x ∧ x < 9223372036854775808) (hy : 0 < y ∧ y < 9223372036854775808) : stdAr.bin .rem .i64 x y = x % y := by
  show IntKind.wrap .i64 (x.tmod y) = _
  rw [Int.tmod_eq_emod_of_nonneg hx.1]
  have h1 : 0 ≤ x % y := Int.emod_nonneg _ (by omega)
  have h2 : x % y < y := Int.emod_lt_of_pos _ hy.1
  exact wrap_i64' _ (by omega)
theorem s_byte (n : Nat) (hn : n ≤ 64) {x y : Int} (hx : 0 ≤ x ∧ x < 18446744073709551616) (hy : y = n) : stdAr.wrap .u8 (stdAr.bin .shr .u64 x y) = x / 2 ^ n % 256 := by
  rw [s_shr n hn hx hy, s_wrap, wrap_u8']

/-- A number's value by bytes, the lowest first. -/
def vb : LI → Int
  | [] => 0
  | x :: l => x + 256 * vb l
theorem vb_take_succ : ∀ (l : LI) (n : Nat), n < l.length → vb (l.take (n + 1)) = vb (l.take n) + l.getD n 0 * 256 ^ n
  | [], _, h => by simp at h
  | x :: l, 0, _ => by simp [vb]
  | x :: l, n + 1, h => by
    have ih := vb_take_succ l n (by simpa using h)
    simp only [List.take_succ_cons, vb, ih, List.getD_cons_succ, Int.pow_succ]
    grind
theorem vb_range : ∀ {l : LI}, RgL .u8 l → 0 ≤ vb l ∧ vb l < 256 ^ l.length
  | [], _ => by simp [vb]
  | x :: l, h => by
    have h1 := rg8.1 (h x (by simp))
    have h2 := vb_range (l := l) (fun y hy => h y (by simp [hy]))
    simp only [vb, List.length_cons, Int.pow_succ]
    omega
theorem val_ge : ∀ (l : LI) (n : Nat), RgL .u64 l → l.getD n 0 * 18446744073709551616 ^ n ≤ val l
  | [], n, _ => by simp [val]
  | x :: l, 0, h => by
    have h2 := val_nonneg (l := l) (fun y hy => h y (by simp [hy]))
    simp [val]; omega
  | x :: l, n + 1, h => by
    have h1 := rg64.1 (h x (by simp))
    have ih := val_ge l n (fun y hy => h y (by simp [hy]))
    simp only [val, List.getD_cons_succ, Int.pow_succ]
    generalize (18446744073709551616 : Int) ^ n = s at *
    generalize l.getD n 0 = y at *
    have : y * (s * 18446744073709551616) = 18446744073709551616 * (y * s) := by grind
    omega
theorem getD_rg8 {xs : LI} (h : RgL .u8 xs) (i : Nat) : 0 ≤ xs.getD i 0 ∧ xs.getD i 0 < 256 := by
  rw [List.getD_eq_getElem?_getD]
  cases hx : xs[i]? with
  | none => simp
  | some y => simpa using rg8.1 (rgL_get h hx)

/-- One byte more, laid into its word. -/
theorem lay_step {b p : LI} {i : Nat} (hb : b.length = 32 ∧ RgL .u8 b) (hi : i < 32) (hp : p.length = 4 ∧ RgL .u64 p) (hv : val p = vb (b.take i)) :
    (0 ≤ p.getD (i / 8) 0 ∧ p.getD (i / 8) 0 < 2 ^ (8 * (i % 8))) ∧ (0 ≤ b.getD i 0 ∧ b.getD i 0 < 256) ∧ b.getD i 0 * 2 ^ (8 * (i % 8)) < 18446744073709551616 ∧ p.getD (i / 8) 0 + b.getD i 0 * 2 ^ (8 * (i % 8)) < 18446744073709551616 ∧
    (p.set (i / 8) (p.getD (i / 8) 0 + b.getD i 0 * 2 ^ (8 * (i % 8)))).length = 4 ∧ RgL .u64 (p.set (i / 8) (p.getD (i / 8) 0 + b.getD i 0 * 2 ^ (8 * (i % 8)))) ∧ val (p.set (i / 8) (p.getD (i / 8) 0 + b.getD i 0 * 2 ^ (8 * (i % 8)))) = vb (b.take (i + 1)) := by
  have h1 := val_ge p (i / 8) hp.2
  have h2 := getD_rg hp.2 (i / 8)
  have h3 := (vb_range (l := b.take i) (fun x hx => hb.2 x (List.mem_of_mem_take hx))).2
  rw [List.length_take, Nat.min_eq_left (by omega)] at h3
  have h4 := getD_rg8 hb.2 i
  have e1 : (256 : Int) ^ i = 18446744073709551616 ^ (i / 8) * 2 ^ (8 * (i % 8)) := by
    have a1 : (256 : Int) ^ i = 2 ^ (8 * i) := by rw [Int.pow_mul]; rfl
    have a2 : (18446744073709551616 : Int) ^ (i / 8) = 2 ^ (64 * (i / 8)) := by rw [Int.pow_mul]; rfl
    rw [a1, a2, ← Int.pow_add]
    congr 1; omega
  have hs : (0 : Int) < 18446744073709551616 ^ (i / 8) := Int.pow_pos (by omega)
  have h5 : p.getD (i / 8) 0 < 2 ^ (8 * (i % 8)) := by
    have : p.getD (i / 8) 0 * 18446744073709551616 ^ (i / 8) < 2 ^ (8 * (i % 8)) * 18446744073709551616 ^ (i / 8) := by
      rw [Int.mul_comm (2 ^ _), ← e1]; omega
    exact Int.lt_of_mul_lt_mul_right this (Int.le_of_lt hs)
  have hr : i % 8 = 0 ∨ i % 8 = 1 ∨ i % 8 = 2 ∨ i % 8 = 3 ∨ i % 8 = 4 ∨ i % 8 = 5 ∨ i % 8 = 6 ∨ i % 8 = 7 := by omega
  have h6 : b.getD i 0 * 2 ^ (8 * (i % 8)) < 18446744073709551616 ∧ p.getD (i / 8) 0 + b.getD i 0 * 2 ^ (8 * (i % 8)) < 18446744073709551616 := by
    generalize p.getD (i / 8) 0 = w at *
    generalize b.getD i 0 = x at *
    rcases hr with h | h | h | h | h | h | h | h <;> rw [h] at h5 ⊢ <;> simp only [Nat.mul_zero, Nat.mul_one, Nat.reduceMul, Int.pow_zero, Int.reducePow] at h5 ⊢ <;> omega
  have hpos : (0 : Int) ≤ b.getD i 0 * 2 ^ (8 * (i % 8)) := Int.mul_nonneg h4.1 (Int.le_of_lt (Int.pow_pos (by omega)))
  refine ⟨⟨h2.1, h5⟩, h4, h6.1, h6.2, by simp [hp.1], rgL_set hp.2 _ (rg64.2 ⟨by omega, h6.2⟩), ?_⟩
  rw [val_set _ _ _ (by rw [hp.1]; omega), vb_take_succ _ _ (by rw [hb.1]; omega), hv, e1]
  grind
end Go.Proofs.SX

namespace Go.Proofs.SX
open Go Go.RowKit Go.ChangeShapes Go.WideShapes
set_option linter.unusedVariables false
set_option linter.unusedSimpArgs false

theorem rg_has {k : IntKind} {n : Int} (h : k.has n) : Rg k n := (rg_iff k n).2 ⟨h.1, h.2⟩

section
variable {P : Program} {W : World} {base : Nat} {own : Nat → Prop}

theorem cell_int {t : TypeId} {k : IntKind} {v : Value} (ht : P.underlying t = some (.int k)) (h : Cell.okWide P W .any base t v) : ∃ x, v = .int k x ∧ Rg k x := by
  unfold Cell.okWide at h
  rw [ht] at h
  cases v with
  | int k' n =>
    have h' : k' = k ∧ k.has n := by simpa [Cell.ok, ht] using h
    exact ⟨n, by rw [h'.1], rg_has h'.2⟩
  | _ => simp [Cell.ok, ht] at h

/-- The cells of an argument of numbers of one kind. -/
theorem cells_num {t u : TypeId} {k : IntKind} {m : Nat} {cs : Array Value} (hu : P.underlying u = some (.int k)) (hc : P.cellTypes P.depth t = some (List.replicate m u)) (hs : cs.size = m) (h : Row.okWide P W .any base t cs) :
    ∃ xs : List Int, cs.toList = ints k xs ∧ xs.length = m ∧ RgL k xs := by
  obtain ⟨ts, h1, _, h2⟩ := h
  rw [hc] at h1
  simp only [Option.some.injEq] at h1
  subst h1
  have key : ∀ (l : List Value), (∀ v ∈ l, ∃ x, v = .int k x ∧ Rg k x) → ∃ xs : List Int, l = ints k xs ∧ xs.length = l.length ∧ RgL k xs := by
    intro l
    induction l with
    | nil => intro _; exact ⟨[], rfl, rfl, fun _ h => by cases h⟩
    | cons v l ih =>
      intro hl
      obtain ⟨x, rfl, hx⟩ := hl v (by simp)
      obtain ⟨xs, e, hlen, hr⟩ := ih fun v hv => hl v (by simp [hv])
      refine ⟨x :: xs, by simp [ints] at e ⊢; exact e, by simp [hlen], fun y hy => ?_⟩
      rcases List.mem_cons.1 hy with rfl | hy
      · exact hx
      · exact hr y hy
  obtain ⟨xs, h3, h4, h5⟩ := key cs.toList fun v hv => by
    obtain ⟨i, hi⟩ := List.mem_iff_getElem?.1 hv
    rw [Array.getElem?_toList] at hi
    obtain ⟨u', g1, g2⟩ := h2 i v hi
    have : u' = u := by
      rw [List.getElem?_replicate] at g1
      split at g1
      · exact (Option.some.inj g1).symm
      · simp at g1
    subst this
    exact cell_int hu g2
  exact ⟨xs, h3, by rw [h4]; simpa using hs, h5⟩

theorem arg_arr {t u e : TypeId} {k : IntKind} {m n : Nat} {v : Value} (ht : P.underlying t = some (.array n e)) (hu : P.underlying u = some (.int k)) (hc : P.cellTypes P.depth t = some (List.replicate m u)) (hs : P.cellsOf t = m) (h : Value.okWide P W .any base t v) :
    ∃ xs, VR1 (RC0 own W) (.arr k m xs) v := by
  unfold Value.okWide at h
  rw [ht] at h
  obtain ⟨cs, rfl, h1, h2⟩ := h
  obtain ⟨xs, h3, h4, h5⟩ := cells_num hu hc (h1.trans hs) h2
  exact ⟨xs, by rw [← h3], h4, h5⟩
/-- A struct of two arrays of numbers of one kind. -/
theorem arg_two {t u : TypeId} {fs : Array Field} {k : IntKind} {m n : Nat} {v : Value} (ht : P.underlying t = some (.struct fs)) (hu : P.underlying u = some (.int k)) (hc : P.cellTypes P.depth t = some (List.replicate (m + n) u)) (hs : P.cellsOf t = m + n) (h : Value.okWide P W .any base t v) :
    ∃ xs ys, VR1 (RC0 own W) (.agg [.arr k m xs, .arr k n ys]) v := by
  unfold Value.okWide at h
  rw [ht] at h
  obtain ⟨cs, rfl, h1, h2⟩ := h
  obtain ⟨xs, h3, h4, h5⟩ := cells_num hu hc (h1.trans hs) h2
  refine ⟨xs.take m, xs.drop m, cs.toList, by simp, ints k (xs.drop m), ?_, by simp; omega, fun y hy => h5 y (List.mem_of_mem_take hy), [], by simp, by simp; omega, fun y hy => h5 y (List.mem_of_mem_drop hy), rfl⟩
  rw [h3, ← ints_append, List.take_append_drop]
theorem arg_int {t : TypeId} {k : IntKind} {v : Value} (ht : P.underlying t = some (.int k)) (h : Value.okWide P W .any base t v) : ∃ x, VR1 (RC0 own W) (.int k x) v := by
  unfold Value.okWide at h
  rw [ht] at h
  exact cell_int ht h

/-- A slice of numbers. -/
theorem arg_sli {H : Type} {enc : TypeId × Value → H} {t e : TypeId} {k : IntKind} {v : Value} {d : DataW H} {ps : List MemPlace} (ht : P.underlying t = some (.slice e)) (hu : P.underlying e = some (.int k)) (hc : P.cellsOf e = 1) (h : Value.okWide P W .any base t v) (hd : DataW.Trod enc P W 0 (fun _ => true) true t v d ps) :
    ∃ xs, VR1 (RC0 (fun _ => False) W) (.sli k xs) v := by
  obtain ⟨fuel, hf⟩ := hd
  obtain ⟨a0, len, cap, rfl⟩ := okWide_slice ht h
  rcases open_ints ht hu hc hf with ⟨hcs, _⟩ | ⟨a, len', cap', zs, hcs, _, hl, hm, hz, _, hcell, hwf⟩
  · simp [Value.cells] at hcs
    obtain ⟨rfl, rfl, rfl⟩ := hcs
    exact ⟨[], none, 0, rfl, Nat.le_refl _, by simp, (fun x (hx : x ∈ []) => by cases hx), fun h => absurd rfl h⟩
  · simp [Value.cells] at hcs
    obtain ⟨rfl, rfl, rfl⟩ := hcs
    simp only [if_pos] at hz
    have hlen : (zs.take len).length = len := by simp; omega
    have hm' : cap ≤ 9223372036854775807 := by simp [maxLen] at hm; omega
    refine ⟨zs.take len, some a, cap, by rw [hlen], by omega, by omega, fun x hx => ?_, fun _ => ⟨a, rfl, fun j x hj => ?_, fun h => h⟩⟩
    · have := hwf x (List.mem_of_mem_take hx)
      exact rg_has (by simpa [Lit.wf, IntKind.has] using this)
    · have hj2 := (List.getElem?_eq_some_iff.1 hj).1
      rw [hlen] at hj2
      have := hcell j (by omega)
      rw [List.getElem?_take, if_pos hj2] at hj
      rw [List.getD_eq_getElem?_getD, hj] at this
      exact this

/-- A call of a function with a body. -/
theorem FCall.calls {f : FuncId} {fn : Func} {code : Code} {args : List AV} {r : AV} (hf : P.funcs[f]? = some fn) (hb : fn.body = some code) (hname : (fn.name == "runtime.NumGoroutine") = false) (h : FCall P f args r) {vs : List Value} (hvs : VRL (RC0 (fun _ => False) W) args vs) :
    Calls P f vs.toArray W fun e w' => ∃ v, e = .returned v ∧ VR (RC0 (fun _ => False) w') r v ∧ Below W.heap.size W w' := by
  have h1 := h (fun _ => False) W vs (fun _ h => h.elim) hvs
  have hrun : (callFunc f vs.toArray).run P W = .ok (.enter f vs.toArray) W := by
    unfold callFunc
    have hname' : ¬ fn.name = "runtime.NumGoroutine" := by simpa using hname
    simp [hf, hname', hb]
  unfold CallsX at h1
  rw [hrun] at h1
  exact h1
end
end Go.Proofs.SX

namespace Go.Proofs.SX
open Go Go.RowKit
set_option linter.unusedVariables false
set_option linter.unusedSimpArgs false

/-- A place of a list. -/
abbrev Idx (xs : List Int) : Type := { i : Nat // i < xs.length }
def ixs {xs : List Int} (l : List (Idx xs)) : List Nat := l.map Subtype.val
theorem ixs_snoc {xs : List Int} (l : List (Idx xs)) (x : Idx xs) : ixs (l ++ [x]) = ixs l ++ [x.1] := by simp [ixs]
def dEnc (k : IntKind) (xs : List Int) (x : Idx xs) : Array Value := #[.int .i64 (x.1 : Int), .int k (xs.getD x.1 0)]
/-- Cells that are not one's own stay. -/
def keepC (own : Nat → Prop) (W W' : World) : Prop := ∀ ad v, W.cell? ad = some v → ¬ own ad.block → W'.cell? ad = some v
def downL (n : Nat) : List Nat := (List.range n).reverse
theorem downL_succ (n : Nat) : downL (n + 1) = n :: downL n := by simp [downL, List.range_succ]
def SliV (R : RC) (k : IntKind) (xs : List Int) (u : Value) : Prop := VR0 R (.sli k xs) u

/-- What is needed of an iterator that goes down. -/
def DownOk (P : Program) (f : FuncId) (k : IntKind) : Prop :=
  (∀ args w, (callFunc f args).run P w = .ok (.enter f args) w) ∧
  ∀ (n : Nat), 3 ≤ n → ∀ (xs : List Int) (own : Nat → Prop) (w : World) (ad : Addr) (u : Value), w.cell? ad = some u → ¬ own ad.block → SliV (RC0 own w) k xs u →
    SeqStopsK Fence.wide n P f #[.pointer (some ad)] (dEnc k xs) (keepC own) (fun ys => ixs ys = downL xs.length) (fun pre => ixs pre <+: downL xs.length) xs.length w

section
variable {P : Program} {O : Nat → Prop} {B : Bd} {w0 : World} {c : Cx} {Q : XE → St → Prop}

/-- No block comes to life. -/
def subL : List Blk → List Blk → Prop
  | _, [] => True
  | [], b :: l => b = .gone ∧ subL [] l
  | x :: m, b :: l => (x = .gone → b = .gone) ∧ subL m l
theorem subL_nth : ∀ {l m : List Blk}, subL l m → ∀ t, nthB l t = .gone → nthB m t = .gone
  | _, [], _, t, _ => by cases t <;> rfl
  | [], b :: m, h, 0, _ => h.1
  | [], b :: m, h, t + 1, _ => subL_nth (l := []) h.2 t (by rfl)
  | x :: l, b :: m, h, 0, hg => h.1 hg
  | x :: l, b :: m, h, t + 1, hg => subL_nth (l := l) h.2 t hg

/-- The frame with which a round begins. -/
def rndF (fr : List AV) (p1 p2 d1 d2 : Nat) (i : Nat) (k : IntKind) (x : Int) : List AV :=
  upd (upd (upd (upd fr p1 (.int .i64 (i : Int))) p2 (.int k x)) d1 (.int .i64 (i : Int))) d2 (.int k x)

/-- What a round comes to. -/
def RoundOk (c : Cx) (body : Code) (fr : List AV) (hp : List Blk) (N R : List Blk → Prop) : Prop :=
  ∃ (n : Nat) (ds : List Bool), match xcode c n body ⟨⟨fr, hp⟩, ds, []⟩ with
  | some (.normal, r) => Obs r.ob ∧ subL hp r.s.hp ∧ N r.s.hp
  | some (.ret, r) => Obs r.ob ∧ subL hp r.s.hp ∧ R r.s.hp
  | _ => False

/-- The assigning code of a loop with two variables. -/
def isAssign2 (p1 p2 d1 d2 : Nat) (c : Code) : Prop :=
  ∃ (i1 i2 : Nat) (x y : Oper), c = .seq (.region i1 #[x] false) (.region i2 #[y] false) ∧ (x.dst = some d1 ∧ x.op = .assign (.tmp p1) ∧ x.guard = none) ∧ (y.dst = some d2 ∧ y.op = .assign (.tmp p2) ∧ y.guard = none)

theorem region_assign {id p d : Nat} {x : Oper} (h1 : x.dst = some d) (h2 : x.op = .assign (.tmp p)) (h3 : x.guard = none) {rd : Option Nat} {nn : Nat} {a : Act} {w : World} {Q : Exit → Act → World → Prop} (hq : Q .normal (a.put (some d) (a.tmps.getD p undef)) w) :
    (Code.region id #[x] false).wpIn (rF rd) nn P Q a w := by
  refine wpIn_region ?_
  show wpOpsIn (rF rd) nn P #[x] Q [0] a w
  rw [wpOpsIn_cons]
  show wpOpIn (rF rd) nn P #[x] Q 0 _ a w
  unfold wpOpIn
  simp only [List.getElem?_toArray, List.getElem?_cons_zero]
  rw [if_pos (by simp [Region.wanted, h3])]
  refine wp_of_value (fun c e => by rw [h2] at e; cases e) (v := a.tmps.getD p undef) (w' := w) ?_ ?_
  · simp [execOp, h2, Act.eval]
  · rw [h1]; exact hq

theorem tm_put1 {L : Nat} {R : RC} {fr : List AV} {a : Act} (tm : ∀ t, VR R (nth fr t) (a.tmps.getD t undef)) (hl : fr.length = L) (le : L ≤ a.tmps.size) {d : Nat} {x : AV} {v : Value} (hx : VR R x v) :
    (∀ t, VR R (nth (upd fr d x) t) ((a.put (some d) v).tmps.getD t undef)) ∧ (upd fr d x).length = L ∧ L ≤ (a.put (some d) v).tmps.size := by
  refine ⟨fun t => ?_, by rw [len_upd]; exact hl, by rw [size_put]; exact le⟩
  rw [nth_upd, getD_put]
  by_cases h : t = d
  · by_cases hd : d < fr.length
    · rw [if_pos ⟨h, hd⟩, if_pos ⟨h, by omega⟩]; exact hx
    · rw [if_neg (fun hh => hd hh.2), nth_big fr t (by omega)]; trivial
  · rw [if_neg (fun hh => h hh.1), if_neg (fun hh => h hh.1)]; exact tm t

theorem AWP.range (k : COk P c) {na : Bool} (hcn : c.na = na) {nn : Nat} (hnn : 5 ≤ nn) {f : FuncId} {kd : IntKind} {xs : List Int} (hdown : DownOk P f kd) {g : Operand} {p1 p2 d1 d2 : Nat} {assign body : Code} {s : St} (hpp : p1 ≠ p2) (hp1 : p1 < s.fr.length) (hp2 : p2 < s.fr.length) (hd1 : d1 ≠ p1 ∧ d1 ≠ p2)
    (hasg : isAssign2 p1 p2 d1 d2 assign) (hg : evF (nth s.fr) g = .itd f kd xs)
    (I : List Nat → List Blk → Prop) (h0 : I [] s.hp)
    (hround : RgL kd xs → ∀ pre i hp, i < xs.length → I pre hp → RoundOk c body (rndF s.fr p1 p2 d1 d2 i kd (xs.getD i 0)) hp (fun hp' => I (pre ++ [i]) hp') (fun hp' => pre ++ [i] <+: downL xs.length → Q .ret ⟨s.fr, hp'⟩))
    (hdone : ∀ hp, I (downL xs.length) hp → Q .normal ⟨s.fr, hp⟩) : AWP ⟨na, none, nn⟩ P (.rangeFunc g #[p1, p2] assign body) s Q := by
  intro O B w0 R a hna hc
  have hgv := hc.c.ev g
  rw [hg] at hgv
  obtain ⟨ad, u, hfv, hcell, hnoo, hsl⟩ := hgv
  have hsl' : SliV (RC0 R.own R.w) kd xs u := by
    obtain ⟨a0, cap, h4, h5, h6, h7, h8⟩ := hsl
    exact ⟨a0, cap, h4, h5, h6, h7, fun hne => let ⟨ad, ha, hr⟩ := h8 hne; ⟨ad, ha, hr.cell, hr.far⟩⟩
  have hrg : RgL kd xs := by obtain ⟨_, _, _, _, _, h7, _⟩ := hsl; exact h7
  have hseq := hdown.2 (nn - 1) (by omega) xs R.own R.w ad u hcell hnoo hsl'
  have hsz0 : w0.heap.size ≤ R.w.heap.size := hc.c.bw.size
  -- what holds between two rounds
  let base : (List Blk → Prop) → World → Prop := fun J W => ∃ (R' : RC) (hp : List Blk), R'.w = W ∧ J hp ∧ Conc O B w0 s.fr.length R' (nth s.fr) (nthB hp) { a with defers := [] } ∧ (∀ m, R'.al m ↔ m < lenB hp) ∧ NewOk B W ∧ (∀ b, R'.own b → R.own b) ∧ Marks w0 W R.w.heap.size a.defers
  have hbase : ∀ (J : List Blk → Prop), OwnFrom R.w.heap.size (fun (_ : Unit) W => base J W) := by
    rintro J _ W W' row ⟨R', hp, rfl, hJ, hc', hal, hnew, hown, hmk⟩ hgr hr
    obtain ⟨hc2, _⟩ := hc'.grown (a' := { a with defers := [] }) hgr (fun r e => ⟨by have := (hr r e).1; omega, (hr r e).2⟩) rfl trivial
    refine ⟨R'.on W', hp, rfl, hJ, hc2, hal, hnew.mono hgr.size, hown, ?_⟩
    have mk : ∀ {E : Nat} {l : List Deferred}, E ≤ R.w.heap.size → Marks w0 R'.w E l → Marks w0 W' E l := by
      intro E l
      induction l generalizing E with
      | nil => intro _ _; trivial
      | cons d l ih =>
        rintro hE ⟨D, h1, h2, h3, h4, h5⟩
        refine ⟨D, h1, h2, h3, ?_, ih (by omega) h5⟩
        rw [hgr.block D (Array.getElem?_eq_some_iff.1 h4).1 (fun e => by have := (hr D e.symm).1; omega)]
        exact h4
    exact mk (Nat.le_refl _) hmk
  -- out of it
  have back : ∀ {J : List Blk → Prop} {W : World} {D : Nat}, base J W → R.w.heap.size ≤ D → W.heap[D]? = some (.deferred (some [])) → ∃ R' hp, R'.w = W ∧ J hp ∧ ConcL O B w0 ⟨s.fr, hp⟩ R' { a with defers := { target := .collected D, args := #[] } :: a.defers } := by
    rintro J W D ⟨R', hp, rfl, hJ, hc', hal, hnew, hown, hmk⟩ hD hd
    refine ⟨R', hp, rfl, hJ, ⟨⟨hc'.tm, hc'.sz, hc'.le, hc'.own, hc'.oB, hc'.bl, hc'.inj, hc'.bw, ?_⟩, hal, hnew⟩⟩
    exact ⟨D, (Array.getElem?_eq_some_iff.1 hd).1, by omega, rfl, hd, hmk.oth (Oth.refl _) hD⟩
  let v1 : Idx xs → Value := fun x => .int .i64 (x.1 : Int)
  let v2 : Idx xs → Value := fun x => .int kd (xs.getD x.1 0)
  let a1 : Idx xs → Act := fun x => ((((({ a with defers := [] } : Act).put (some p1) (v1 x)).put (some p2) (v2 x)).put (some d1) (v1 x)).put (some d2) (v2 x))
  have ht : ∀ (x : Idx xs), ({ tmps := (#[p1, p2].zip (dEnc kd xs x)).foldl (fun t (p, v) => t.setIfInBounds p v) a.tmps, defers := [] } : Act) = ((({ a with defers := [] } : Act).put (some p1) (v1 x)).put (some p2) (v2 x)) := by
    intro x
    simp [dEnc, Act.put, v1, v2]
  show (Code.rangeFunc g #[p1, p2] assign body).wpIn Fence.wide nn P _ a R.w
  refine wpIn_rangeFunc_ownG rfl (by omega) (gf := f) (lb := #[.pointer (some ad)]) hfv trivial hdown.1 hseq (fun {A B C} h k ad v hc ho => k ad v (h ad v hc ho) ho)
    (fun W l o o' hl ho hcl _ ad' v hcv hov => ?_) (Below.refl _ _) (fun x => rfl)
    (fun pre W => base (I (ixs pre)) W)
    (fun cd pre W => cd = .ret ∧ base (fun hp => ixs pre <+: downL xs.length → Q .ret ⟨s.fr, hp⟩) W)
    (fun pre W W' row h hg' hr => hbase (I (ixs pre)) () W W' row h hg' hr)
    (fun cd pre W W' row h hg' hr => ⟨h.1, hbase (fun hp => ixs pre <+: downL xs.length → Q .ret ⟨s.fr, hp⟩) () W W' row h.2 hg' hr⟩)
    ⟨R, s.hp, rfl, h0, ⟨hc.c.tm, hc.c.sz, hc.c.le, hc.c.own, hc.c.oB, hc.c.bl, hc.c.inj, hc.c.bw, trivial⟩, hc.al, hc.hB, fun _ h => h, hc.c.df⟩ a1 ?_ ?_ ?_ ?_
  · -- the loop's record is no cell
    have hne : ad'.block ≠ l := fun e => by
      unfold World.cell? at hcv
      rw [e, ho] at hcv
      cases o <;> simp [Obj.isCells] at hcl <;> simp at hcv
    exact (World.cell?_of_block (World.putObj_heap_other hne)).trans hcv
  · -- the assigning code
    intro l x W K hK
    rw [ht x]
    obtain ⟨i1, i2, y1, y2, rfl, ⟨e1, e2, e3⟩, f1, f2, f3⟩ := hasg
    have hsza : s.fr.length ≤ a.tmps.size := hc.c.le
    refine wpIn_seq ?_
    refine region_assign (rd := some l) e1 e2 e3 ?_
    show (Code.region i2 #[y2] false).wpIn (rF (some l)) _ P _ _ W
    refine region_assign (rd := some l) f1 f2 f3 ?_
    have g1 : ((({ a with defers := [] } : Act).put (some p1) (v1 x)).put (some p2) (v2 x)).tmps.getD p1 undef = v1 x := by
      rw [getD_put, if_neg (fun h => hpp h.1), getD_put, if_pos ⟨rfl, by show p1 < a.tmps.size; omega⟩]
    have g2 : (((({ a with defers := [] } : Act).put (some p1) (v1 x)).put (some p2) (v2 x)).put (some d1) (v1 x)).tmps.getD p2 undef = v2 x := by
      rw [getD_put, if_neg (fun h => hd1.2 h.1.symm), getD_put, if_pos ⟨rfl, by rw [size_put]; show p2 < a.tmps.size; omega⟩]
    rw [g1, g2]
    exact hK
  · -- a round
    rintro l pre x W ⟨R', hp, rfl, hJ, hc', hal, hnew, hown, hmk⟩ _
    obtain ⟨n, ds, hrun⟩ := hround hrg (ixs pre) x.1 hp x.2 hJ
    have hx1 : VR R' (.int .i64 (x.1 : Int)) (v1 x) := ⟨rfl, rg_lit .i64 _ (by
      have := x.2
      obtain ⟨_, _, _, _, h6, _⟩ := hsl
      simp [kmax]; omega)⟩
    have hx2 : VR R' (.int kd (xs.getD x.1 0)) (v2 x) := ⟨rfl, by
      rw [List.getD_eq_getElem?_getD, List.getElem?_eq_getElem x.2]
      exact hrg _ (List.getElem_mem x.2)⟩
    obtain ⟨q1, q2, q3⟩ := tm_put1 (d := p1) hc'.tm rfl hc'.le hx1
    obtain ⟨q4, q5, q6⟩ := tm_put1 (d := p2) q1 q2 q3 hx2
    obtain ⟨q7, q8, q9⟩ := tm_put1 (d := d1) q4 q5 q6 hx1
    obtain ⟨q10, q11, q12⟩ := tm_put1 (d := d2) q7 q8 q9 hx2
    have hcr : ConcL O B w0 ⟨rndF s.fr p1 p2 d1 d2 x.1 kd (xs.getD x.1 0), hp⟩ R' (a1 x) := by
      refine ⟨⟨q10, fun t ht => nth_big _ _ ht, ?_, hc'.own, hc'.oB, hc'.bl, hc'.inj, hc'.bw, trivial⟩, hal, hnew⟩
      show (rndF s.fr p1 p2 d1 d2 x.1 kd (xs.getD x.1 0)).length ≤ (a1 x).tmps.size
      have : (rndF s.fr p1 p2 d1 d2 x.1 kd (xs.getD x.1 0)).length = s.fr.length := q11
      rw [this]; exact q12
    -- behind the round: the loop's own frame
    have fin : ∀ {r' : St} {R2 : RC} {a2 : Act} {J : List Blk → Prop}, subL hp r'.hp → J r'.hp → ConcL O B w0 r' R2 a2 → Rel R' R2 → KeepsFrom R.w.heap.size R'.w R2.w ∧ keepC R.own R'.w R2.w ∧ base J R2.w := by
      intro r' R2 a2 J hsub hJ2 hc2 hrel
      have hown2 : ∀ b, R2.own b → R'.own b := by
        intro b hb
        rcases (hc2.c.own b).1 hb with hO | ⟨nm, hg2, hr2⟩
        · exact (hc'.own b).2 (.inl hO)
        · have hl : nthB hp nm ≠ .gone := fun e => hg2 (subL_nth hsub nm e)
          have hal' : R'.al nm := ((hc'.bl nm).heap hl).2.2
          exact (hc'.own b).2 (.inr ⟨nm, hl, by rw [← hrel.ext.ρ nm hal']; exact hr2⟩)
      refine ⟨⟨hrel.oth.size, fun k o _ hk ho => hrel.oth.same k o hk ho⟩, fun ad v hcv hno => (hrel.ext.cell ad v hcv (fun hb => hno (hown _ hb))).1, R2, r'.hp, rfl, hJ2, ⟨fun t => (hc'.tm t).ext hrel.ext, hc'.sz, hc'.le, hc2.c.own, hc2.c.oB, hc2.c.bl, hc2.c.inj, hc2.c.bw, trivial⟩, hc2.al, hc2.hB, fun b hb => hown b (hown2 b hb), hmk.oth hrel.oth (Nat.le_refl _)⟩
    show body.wpIn (rF (some l)) (nn - 1 - 1) P _ (a1 x) R'.w
    split at hrun
    · rename_i r hx
      obtain ⟨ho, hsub, hN⟩ := hrun
      refine xcode_sound (R00 := R') (hna.trans hcn.symm) k.hm k.hA k.hTy k.hG hx ho (fun a2 R2 hc2 hrel => ?_) R' (a1 x) hcr (Rel.refl R')
      have hN' : I (ixs (pre ++ [x])) r.s.hp := by rw [ixs_snoc]; exact hN
      exact fin (J := I (ixs (pre ++ [x]))) hsub hN' hc2 hrel
    · rename_i r hx
      obtain ⟨ho, hsub, hR⟩ := hrun
      refine xcode_sound (R00 := R') (hna.trans hcn.symm) k.hm k.hA k.hTy k.hG hx ho (fun a2 R2 hc2 hrel => ?_) R' (a1 x) hcr (Rel.refl R')
      have hR' : ixs (pre ++ [x]) <+: downL xs.length → Q .ret ⟨s.fr, r.s.hp⟩ := by rw [ixs_snoc]; exact hR
      obtain ⟨h1, _, h2⟩ := fin (J := fun hp => ixs (pre ++ [x]) <+: downL xs.length → Q .ret ⟨s.fr, hp⟩) hsub hR' hc2 hrel
      exact ⟨h1, rfl, h2⟩
    · exact hrun.elim
  · -- all have come
    rintro D ys W hD hS hI hd
    obtain ⟨R', hp, rfl, hJ, hcl⟩ := back hI hD hd
    rw [hS] at hJ
    exact ⟨.normal, ⟨s.fr, hp⟩, R', rfl, hdone hp hJ, rfl, hcl⟩
  · -- a round has left
    rintro D cd pre W hD hSp ⟨rfl, hI⟩ hd
    obtain ⟨R', hp, rfl, hJ, hcl⟩ := back hI hD hd
    exact wpIn_ret ⟨.ret, ⟨s.fr, hp⟩, R', rfl, hJ hSp, rfl, hcl⟩
end
end Go.Proofs.SX

namespace Go.Proofs.SX
open Go Go.RowKit
set_option linter.unusedVariables false
set_option linter.unusedSimpArgs false
section
variable {P : Program} {O : Nat → Prop} {B : Bd} {w0 : World}
theorem ConcL.freeze {s : St} {R : RC} {a : Act} (hc : ConcL O B w0 s R a) {d nm : Nat} {lo len : Int} {k k' : IntKind} {xs ys : List Int} (hd : nth s.fr d = .osl nm lo len) (hb : nthB s.hp nm = .row k xs) (hcl : closeAV stdAr (nthB s.hp) (.osl nm lo len) = some (.sli k' ys)) :
    ∃ R', R'.w = R.w ∧ ConcL O B w0 ⟨upd s.fr d (.sli k' ys), updB s.hp nm .gone⟩ R' a := by
  obtain ⟨hk, he⟩ := hc.c.killed 0 [nm]
  have hput : putH (nthB s.hp) 0 (.kill [nm]) = nthB (updB s.hp nm .gone) := by
    funext t
    have := nthB_killB s.hp [nm] t
    simp only [killB] at this
    rw [this]; rfl
  have hno : ¬ (R.drop O (putH (nthB s.hp) 0 (.kill [nm]))).own (R.ρ nm) := by
    have hg : nthB s.hp nm ≠ .gone := by rw [hb]; simp
    rintro (hO | ⟨m, hgm, hr⟩)
    · exact ((hc.c.bl nm).heap hg).2.1 (hc.c.oB _ hO).1
    · have hmk : mem m [nm] = false := by
        cases hm : mem m [nm] with
        | false => rfl
        | true => simp only [putH, hm, if_true] at hgm; exact absurd rfl hgm
      have hm2 : putH (nthB s.hp) 0 (.kill [nm]) m = nthB s.hp m := by simp only [putH, hmk]; rfl
      rw [hm2] at hgm
      have : m = nm := hc.c.inj m nm hgm hg hr
      subst this
      simp [mem, eqN_refl] at hmk
  have sub : ∀ b, (R.drop O (putH (nthB s.hp) 0 (.kill [nm]))).own b → R.own b := by
    rintro b (hO | ⟨m, hg, hr⟩)
    · exact (hc.c.own b).2 (.inl hO)
    · refine (hc.c.own b).2 (.inr ⟨m, ?_, hr⟩)
      simp only [putH] at hg
      split at hg
      · exact absurd rfl hg
      · exact hg
  have hv := hc.c.tm d
  rw [hd] at hv
  have hy := closeAV_spec hc.c sub (x := .osl nm lo len) (y := .sli k' ys) (fun nm' lo' len' h => by cases h; exact hno) hv hcl
  refine ⟨R.drop O (putH (nthB s.hp) 0 (.kill [nm])), rfl, ⟨?_, fun m => by rw [lenB_updB]; exact hc.al m, hc.hB⟩⟩
  rw [hput] at hk hy ⊢
  refine ⟨fun t => ?_, fun t ht => ?_, ?_, hk.own, hk.oB, hk.bl, hk.inj, hk.bw, hk.df⟩
  · rw [nth_upd]
    by_cases h : t = d ∧ d < s.fr.length
    · rw [if_pos h, h.1]
      obtain ⟨ad, cap, h1, h2, h3, h4, h5⟩ := hy
      exact ⟨ad, cap, h1, h2, h3, h4, fun hne => let ⟨p, hp, hr⟩ := h5 hne; ⟨p, hp, hr.cell, hr.far⟩⟩
    · rw [if_neg h]; exact hk.tm t
  · exact nth_big _ _ (by simpa [len_upd] using ht)
  · show (upd s.fr d _).length ≤ _; rw [len_upd]; exact hk.le
theorem AWP.freeze {na : Md} {Q : XE → St → Prop} {code : Code} {s : St} (d : Nat) {nm : Nat} {lo len : Int} {k k' : IntKind} {xs ys : List Int} (hd : nth s.fr d = .osl nm lo len) (hb : nthB s.hp nm = .row k xs) (hcl : closeAV stdAr (nthB s.hp) (.osl nm lo len) = some (.sli k' ys))
    (hw : AWP na P code ⟨upd s.fr d (.sli k' ys), updB s.hp nm .gone⟩ Q) : AWP na P code s Q := by
  intro O B w0 R a hna hc
  obtain ⟨R', hR, hc'⟩ := hc.freeze hd hb hcl
  rw [← hR]
  exact hw O B w0 R' a hna hc'
end
end Go.Proofs.SX
