/- Each operation of the model does what the executor says: a struct's literal, bytes as a text; all of them together. Conditions: none. -/
import Derived.Test.YtmaegpgepcjcbaaSx1
import Derived.LoopNIn
set_option linter.all false
namespace Go.Proofs.SX
open Go Go.RowKit
set_option linter.unusedVariables false
set_option linter.unusedSimpArgs false

section
variable {P : Program} {O : Nat → Prop} {B : Bd} {w0 : World} {L : Nat} {R : RC} {fr : Nat → AV} {hp : Nat → Blk} {n : Nat} {a : Act} {o : Oper} {c : Cx}

def placesOf : List Sh → Nat → List (Nat × Nat)
  | [], _ => []
  | s :: l, off => (off, shSize s) :: placesOf l (off + shSize s)

theorem places_fs : ∀ {sh : List Sh} {fs : List Field} {off : Nat}, FsOk P sh off fs → fs.mapM (fun f => (P.info? f.type).map fun i => (f.offset, i.size)) = some (placesOf sh off)
  | [], [], _, _ => rfl
  | [], _ :: _, _, h => h.elim
  | s :: sh, [], _, h => h.elim
  | s :: sh, f :: fs, off, h => by
    obtain ⟨h1, h2, h3, h4, h5, h6⟩ := h
    cases hi : P.info? f.type with
    | none => rw [hi] at h3; simp at h3
    | some i =>
      rw [hi] at h3
      simp at h3
      simp only [List.mapM_cons, hi, Option.map_some, places_fs h6]
      simp [placesOf, h1, h3]

theorem places_get : ∀ (sh : List Sh) (off i : Nat), i < sh.length → (placesOf sh off)[i]? = some (off + fieldOff sh i, shSize (sh.getD i .other))
  | [], _, _, h => by simp at h
  | s :: sh, off, 0, _ => by simp [placesOf, fieldOff]
  | s :: sh, off, i + 1, h => by
    have := places_get sh (off + shSize s) i (by simpa using h)
    simp only [placesOf, List.getElem?_cons_succ, this, fieldOff, List.getD_cons_succ]
    congr 2
    omega

theorem setC_size : ∀ {l r : List AV} {off : Nat} {v : AV}, setC l off [v] = some r → ∃ x, chunkAt l off = some x ∧ chSize x = chSize v
  | l, r, 0, v, h => by
    have h' : putC l [v] = some r := by cases l <;> simpa [setC] using h
    cases l with
    | nil => simp [putC] at h'
    | cons x l =>
      simp only [putC] at h'
      split at h'
      · rename_i hs; exact ⟨x, rfl, sameCh_size hs⟩
      · simp at h'
  | [], _, _ + 1, _, h => by simp [setC] at h
  | x :: l, r, off + 1, v, h => by
    simp only [setC] at h
    split at h
    · rename_i hb
      split at h
      · rename_i r' hr
        obtain ⟨y, h1, h2⟩ := setC_size hr
        refine ⟨y, ?_, h2⟩
        unfold chunkAt at h1 ⊢
        simp only [dropC, hb, if_true]
        exact h1
      · simp at h
    · simp at h

/-- A shape's chunks have the shape's sizes. -/
def sized : List Sh → List AV → Prop
  | [], [] => True
  | s :: sh, x :: l => chSize x = shSize s ∧ sized sh l
  | _, _ => False

theorem sized_congr : ∀ {sh : List Sh} {l m : List AV}, l.map shp = m.map shp → sized sh l → sized sh m
  | [], [], [], _, _ => trivial
  | [], [], _ :: _, h, _ => by simp at h
  | [], _ :: _, _, _, h => h.elim
  | _ :: _, [], _, _, h => h.elim
  | s :: sh, x :: l, [], h, _ => by simp at h
  | s :: sh, x :: l, y :: m, h, hs => by
    simp only [List.map_cons, List.cons.injEq] at h
    exact ⟨by rw [← hs.1, chSize_shp, chSize_shp, h.1], sized_congr h.2 hs.2⟩

theorem sized_at : ∀ {sh : List Sh} {l : List AV} {i : Nat} {x : AV}, sized sh l → i < sh.length → (∀ s ∈ sh, 0 < shSize s) → chunkAt l (fieldOff sh i) = some x → chSize x = shSize (sh.getD i .other)
  | [], _, _, _, _, h, _, _ => by simp at h
  | s :: sh, [], _, _, h, _, _, _ => h.elim
  | s :: sh, y :: l, 0, x, h, _, _, hc => by
    have : y = x := by simpa [fieldOff, chunkAt, dropC] using hc
    subst this
    simpa using h.1
  | s :: sh, y :: l, i + 1, x, h, hi, hp, hc => by
    have h0 : 0 < shSize s := hp s (by simp)
    have hle : leN (chSize y) (fieldOff (s :: sh) (i + 1)) = true := by rw [leN_eq, h.1]; simp only [fieldOff]; omega
    have hd : chunkAt (y :: l) (fieldOff (s :: sh) (i + 1)) = chunkAt l (fieldOff sh i) := by
      obtain ⟨m, hm⟩ : ∃ m, fieldOff (s :: sh) (i + 1) = m + 1 := ⟨fieldOff (s :: sh) (i + 1) - 1, by simp only [fieldOff]; omega⟩
      unfold chunkAt
      rw [hm] at hle ⊢
      simp only [dropC, hle, if_true]
      have : m + 1 - chSize y = fieldOff sh i := by rw [← hm, h.1]; simp only [fieldOff]; omega
      rw [this]
    rw [hd] at hc
    have := sized_at (sh := sh) (l := l) h.2 (by simpa using hi) (fun s hs => hp s (by simp [hs])) hc
    simpa using this

theorem zeros_sized : ∀ {l : List Sh} {r : List AV}, zerosOf stdAr l = some r → sized l r
  | [], r, h => by simp [zerosOf] at h; subst h; trivial
  | s :: l, r, h => by
    have hs : ∀ m, s ≠ .st m := by intro m e; subst e; simp [zerosOf] at h
    have hz : (match zeroOf stdAr s with
      | some x => match zerosOf stdAr l with
        | some r => some (x :: r)
        | none => none
      | none => none) = some r := by
      cases s <;> first | exact h | exact absurd rfl (hs _)
    cases h1 : zeroOf stdAr s with
    | none => rw [h1] at hz; simp at hz
    | some x =>
      rw [h1] at hz
      cases h2 : zerosOf stdAr l with
      | none => rw [h2] at hz; simp at hz
      | some r' =>
        rw [h2] at hz
        simp only [Option.some.injEq] at hz
        subst hz
        refine ⟨?_, zeros_sized h2⟩
        cases s <;> simp [zeroOf] at h1 <;> first | (subst h1; rfl) | (exact absurd rfl (hs _))

theorem fill_st (hc : Conc O B w0 L R fr hp a) {sh : List Sh} (hpos : ∀ s ∈ sh, 0 < shSize s) : ∀ (ps : List (Nat × Operand)) {l m : List AV} {cs : List Value}, sized sh l → CRL R l cs → setFields sh l (evP (evF fr) ps) = some m →
    ∃ ds, Instr.fill ((placesOf sh 0).toArray[·]?) cs.toArray (ps.map fun p => (p.1, a.eval p.2)) = some ds.toArray ∧ CRL R m ds
  | [], l, m, cs, hs, hcr, h => by
    simp only [evP, setFields, Option.some.injEq] at h
    subst h
    exact ⟨cs, rfl, hcr⟩
  | (i, x) :: ps, l, m, cs, hs, hcr, h => by
    simp only [evP, setFields] at h
    split at h
    · rename_i hi
      simp only [Bool.and_eq_true, leN_eq] at hi
      obtain ⟨hi, hck⟩ := hi
      split at h
      · rename_i l' hl'
        have hv := (hc.ev x)
        have hch : chunkies (chunks (evF fr x)) = true ∧ chunks (evF fr x) = [evF fr x] := by
          cases he : evF fr x <;> rw [he] at hck <;> first | exact ⟨by simpa [chunks, chunkies] using hck, rfl⟩ | exact absurd hck (by simp [chunky])
        obtain ⟨h1, _⟩ := hv.cells hch.1
        rw [hch.2] at h1
        obtain ⟨h2, h3⟩ := hcr.setC h1 hl'
        obtain ⟨y, h4, h5⟩ := setC_size hl'
        have h6 := sized_at hs hi hpos h4
        have hlen : (a.eval x).cells.toList.length = shSize (sh.getD i .other) := by
          rw [h1.length]; simp [chSizes]; rw [← h5]; exact h6
        obtain ⟨ds, h7, h8⟩ := fill_st hc hpos ps (sized_congr (setC_shp hl').symm hs) h2 h
        refine ⟨ds, ?_, h8⟩
        rw [List.map_cons]
        have hpl : (placesOf sh 0).toArray[i]? = some (fieldOff sh i, shSize (sh.getD i .other)) := by
          have := places_get sh 0 i hi
          rw [Nat.zero_add] at this
          simpa using this
        rw [fill_step (place := ((placesOf sh 0).toArray[·]?)) (off := fieldOff sh i) (size := shSize (sh.getD i .other)) (vc := (a.eval x).cells.toList) hpl rfl hlen h3]
        exact h7
      · simp at h
    · simp at h

theorem fs_pos : ∀ {sh : List Sh} {fs : List Field} {off : Nat}, FsOk P sh off fs → ∀ s ∈ sh, 0 < shSize s
  | [], _, _, _, s, hs => by simp at hs
  | _ :: _, [], _, h, _, _ => h.elim
  | s :: sh, f :: fs, off, h, t, ht => by
    obtain ⟨_, _, _, h4, _, h6⟩ := h
    rcases List.mem_cons.1 ht with rfl | h7
    · exact h4
    · exact fs_pos h6 t h7

theorem op_build_st (hc : Conc O B w0 L R fr hp a) {t : TypeId} {ps : Array (Nat × Operand)} (ho : o.op = .build t ps) {sh : List Sh} (ht : TyOk P t (.st sh)) {z l : List AV} (hz : zerosOf stdAr sh = some z) (h : setFields sh z (evP (evF fr) ps.toList) = some l) {ob : Ob} :
    OpS P O B w0 L R fr hp n a o ⟨.agg l, .none, ob⟩ := by
  obtain ⟨hinfo, ⟨fs, he, hfs⟩, _⟩ := ty_info ht (by simp)
  obtain ⟨ds, h1, h2⟩ := fill_st hc (fs_pos hfs) ps.toList (zeros_sized hz) (zeros_list (R := R) hz) h
  refine OpS.value hc (v := .agg ds.toArray) ?_ ⟨ds, rfl, h2⟩
  have hb : P.built t (ps.map fun x => (x.1, a.eval x.2)).toList = some ds.toArray := by
    unfold Program.built
    cases hi : P.info? t with
    | none => rw [hi] at hinfo; simp at hinfo
    | some it =>
      rw [hi] at hinfo
      simp at hinfo
      have hmap : (ps.map fun x => (x.1, a.eval x.2)).toList = ps.toList.map fun p => (p.1, a.eval p.2) := by simp
      simp only [he, hinfo.1, places_fs hfs, hmap]
      have hzc : (zval (.st sh)).cells = (zcellsL sh).toArray := by simp [zval, isAggSh, Value.cells, zcells]
      rw [hzc]
      exact h1
  simp [execOp, ho, run_build R.w t _ _ hb]

/-! ### Bytes as a text -/
theorem strOf_back {xs : List Int} (h : RgL .u8 xs) : (strOfNums xs).data.toList.map (fun b => (b.toNat : Int)) = xs := by
  rw [strOfNums_data, List.map_map]
  conv => rhs; rw [← List.map_id xs]
  apply List.map_congr_left
  intro x hx
  have := (rg_iff .u8 x).1 (h x hx)
  simp [IntKind.min, IntKind.max, IntKind.bits, IntKind.signed] at this
  simp
  omega

theorem cell_spot {w : World} {ad : Addr} {v : Value} (h : w.cell? ad = some v) : ad.spot = none := by
  unfold World.cell? at h
  split at h
  · split at h
    · simp at h
    · rename_i hs; simpa using hs
  · simp at h

theorem op_convStr (hc : Conc O B w0 L R fr hp a) {s t : TypeId} {x : Operand} (ho : o.op = .convert s t x) (hs : TyOk P s (.sl .u8)) (ht : TyOk P t .str) {xs : List Int} (h : closeAV stdAr hp (evF fr x) = some (.sli .u8 xs)) {ob : Ob} :
    OpS P O B w0 L R fr hp n a o ⟨.str xs, .none, ob⟩ := by
  obtain ⟨ad0, cap, hv, h1, h2, h3, h4⟩ := closeAV_spec hc (own := fun _ => False) (fun _ hb => hb.elim) (fun _ _ _ _ hb => hb) (hc.ev x) h
  obtain ⟨e, he, hu, _⟩ := (ty_info hs (by simp)).2
  have htu : P.underlying t = some .string := (ty_info ht (by simp)).2
  refine OpS.value hc (v := .string (strOfNums xs)) ?_ ⟨strOfNums xs, rfl, strOf_back h3⟩
  have hrun : (convert s t (a.eval x)).run P R.w = .ok (.string (strOfNums xs)) R.w := by
    rw [hv]
    cases hxs : xs with
    | nil =>
      cases ad0 with
      | none => rw [run_convert_bytes_nil R.w s e he hu _ _ t htu]; rfl
      | some ad =>
        rw [run_convert_bytes_string R.w s t e _ _ _ he hu htu]
        simp only [Conv.bytesToString, List.length_nil]
        simp [loadCells, loadCellsFrom]
        rfl
    | cons x0 l =>
      rw [← hxs]
      obtain ⟨ad, rfl, hrd⟩ := h4 (by rw [hxs]; simp)
      have h0 := hrd.cell 0 x0 (by rw [hxs]; rfl)
      have hsp := cell_spot h0
      obtain ⟨b, off, spot⟩ := ad
      have hspot : spot = none := hsp
      subst hspot
      refine run_convert_bytes_arg R.w s e he hu b off xs.length cap xs rfl (fun i hi => ?_) t htu
      have := hrd.cell i xs[i] (List.getElem?_eq_getElem hi)
      rw [add_at] at this
      refine this.trans ?_
      simp [List.getD, List.getElem?_eq_getElem hi]
  simp [execOp, ho, hrun]

/-! ### All operations -/
theorem evL1 {ev : Operand → AV} {args : Array Operand} {x : AV} (h : evL ev args.toList = [x]) : ∃ y, args = #[y] ∧ ev y = x := by
  obtain ⟨l⟩ := args
  match l, h with
  | [y], h => simp [evL] at h; exact ⟨y, rfl, h⟩

theorem evL2 {ev : Operand → AV} {args : Array Operand} {x y : AV} (h : evL ev args.toList = [x, y]) : ∃ p q, args = #[p, q] ∧ ev p = x ∧ ev q = y := by
  obtain ⟨l⟩ := args
  match l, h with
  | [p, q], h => simp [evL] at h; exact ⟨p, q, rfl, h⟩

theorem bi_sound (hA : c.A = stdAr) (hTy : ∀ t, TyOk P t (c.T t)) (hc : Conc O B w0 L R fr hp a) {q : Out} (hB : isNew q.e = true → ¬ B.keep R.w.heap.size) (hn : isNew q.e = true → ¬ R.al n) {cl : Call} (ho : o.op = .call cl) {b : Builtin} (hcl : cl.callee = .builtin b)
    (h : xbi c (evF fr) hp n b cl.argTypes.toList cl.args.toList = some q) (hob : Obs q.ob) {ob : Ob} : OpS P O B w0 L R fr hp n a o ⟨q.v, q.e, ob⟩ := by
  unfold xbi at h
  simp only [hA] at h
  split at h
  · split at h
    · rename_i t htys
      have hTt := hTy t
      have htys' : cl.argTypes = #[t] := Array.ext' htys
      split at h
      · rename_i k0 hsh
        rw [hsh] at hTt
        split at h
        · rename_i k xs hargs
          obtain ⟨y, hy, hev⟩ := evL1 hargs
          simp only [Option.some.injEq] at h; subst h
          exact op_len_sli hc ho hcl hy htys' hTt (.inl ⟨k, xs, hev, rfl⟩)
        · rename_i nm lo len hargs
          obtain ⟨y, hy, hev⟩ := evL1 hargs
          simp only [Option.some.injEq] at h; subst h
          exact op_len_sli hc ho hcl hy htys' hTt (.inr ⟨nm, lo, len, hev, rfl⟩)
        · simp at h
      · simp at h
    · simp at h
  · split at h
    · rename_i x y hargs
      obtain ⟨p, q, hpq, hp, hq⟩ := evL2 hargs
      split at h
      · rename_i k1 i k2 j hx hy
        split at h
        · rename_i hk
          rw [kindEq_iff] at hk
          simp only [Option.some.injEq] at h; subst h
          exact op_max hc ho hcl hpq (by rw [hp]; exact hx) (by rw [hq, hk]; exact hy)
        · simp at h
      · simp at h
    · simp at h
  · split at h
    · rename_i x y hargs
      obtain ⟨p, q, hpq, hp, hq⟩ := evL2 hargs
      split at h
      · rename_i k1 i k2 j hx hy
        split at h
        · rename_i hk
          rw [kindEq_iff] at hk
          simp only [Option.some.injEq] at h; subst h
          exact op_min hc ho hcl hpq (by rw [hp]; exact hx) (by rw [hq, hk]; exact hy)
        · simp at h
      · simp at h
    · simp at h
  · split at h
    · rename_i t t' htys
      have hTt := hTy t
      have hTt' := hTy t'
      have htys' : cl.argTypes = #[t, t'] := Array.ext' htys
      split at h
      · rename_i k0 hsh
        rw [hsh] at hTt
        split at h
        · rename_i k1 hsh'
          rw [hsh'] at hTt'
          split at h
          · rename_i o1 o2 hargs
            have hargs' : cl.args = #[o1, o2] := Array.ext' hargs
            split at h
            · rename_i ky ys hy
              split at h
              · rename_i hk
                rw [kindEq_iff] at hk
                subst hk
                split at h
                · rename_i hnil
                  simp only [Option.some.injEq] at h; subst h
                  exact op_appendNil hc ho hcl hargs' htys' hTt hTt' hy hnil (hob _ (List.mem_singleton.2 rfl))
                · split at h
                  · rename_i nm lo len hx
                    split at h
                    · rename_i k xs hbk
                      split at h
                      · rename_i hk2
                        rw [kindEq_iff] at hk2
                        subst hk2
                        simp only [Option.some.injEq] at h; subst h
                        have h1 := hob (stdAr.cmp .eql lo 0, true) (by simp)
                        have h2 := hob (stdAr.cmp .leq (stdAr.plus len (stdAr.len ys)) (stdAr.ofNat mostN), true) (by simp)
                        simp [stdAr] at h1 h2
                        subst h1
                        have := op_appendOwn (ob := ob) hc (hB rfl) (hn rfl) ho hcl hargs' htys' hTt hTt' hy hx hbk h2
                        simpa [stdAr] using this
                      · simp at h
                    · simp at h
                  · simp at h
              · simp at h
            · simp at h
          · simp at h
        · simp at h
      · simp at h
    · simp at h
  · split at h
    · rename_i t t' htys
      have hTt := hTy t
      have hTt' := hTy t'
      have htys' : cl.argTypes = #[t, t'] := Array.ext' htys
      split at h
      · rename_i k0 hsh
        rw [hsh] at hTt
        split at h
        · rename_i k1 hsh'
          rw [hsh'] at hTt'
          split at h
          · rename_i o1 o2 hargs
            have hargs' : cl.args = #[o1, o2] := Array.ext' hargs
            split at h
            · rename_i ky ys hy
              split at h
              · rename_i hk
                rw [kindEq_iff] at hk
                subst hk
                split at h
                · rename_i nm lo len hx
                  split at h
                  · rename_i k xs hbk
                    split at h
                    · rename_i hk2
                      rw [kindEq_iff] at hk2
                      subst hk2
                      simp only [Option.some.injEq] at h; subst h
                      have h1 := hob (stdAr.cmp .leq (stdAr.len ys) len, true) (by simp)
                      simp [stdAr] at h1
                      exact op_copy hc ho hcl hargs' htys' hTt hTt' hy hx hbk h1
                    · simp at h
                  · simp at h
                · simp at h
              · simp at h
            · simp at h
          · simp at h
        · simp at h
      · simp at h
    · simp at h
  · simp at h

theorem xmut_sound (hA : c.A = stdAr) (hG : GOk P c.G) (hc : Conc O B w0 L R fr hp a) {q : Out} {cl : Call} (ho : o.op = .call cl) {f : FuncId} (hcl : cl.callee = .value (.func f)) {g : IntKind → List Int → Int → Int → List AV → Option (AV × List Int × Ob)} (hg : c.G f = some (.mut g))
    (h : xmut c hp g (evL (evF fr) cl.args.toList) = some q) (hob : Obs q.ob) {ob : Ob} : OpS P O B w0 L R fr hp n a o ⟨q.v, q.e, ob⟩ := by
  unfold xmut at h
  simp only [hA] at h
  split at h
  · rename_i nm lo len rest hl
    obtain ⟨x, os, hargs, hx, hos⟩ : ∃ x os, cl.args.toList = x :: os ∧ evF fr x = .osl nm lo len ∧ evL (evF fr) os = rest := by
      cases hh : cl.args.toList with
      | nil => rw [hh] at hl; simp [evL] at hl
      | cons x os => rw [hh] at hl; simp only [evL, List.cons.injEq] at hl; exact ⟨x, os, rfl, hl.1, hl.2⟩
    split at h
    · rename_i k xs hbk
      split at h
      · simp at h
      · rename_i hno
        split at h
        · rename_i l hcl2
          split at h
          · rename_i v xs' ob' hv
            split at h
            · rename_i hd
              simp only [Option.some.injEq] at h; subst h
              rw [← hos] at hno hcl2
              exact op_mut hc ho hcl hargs hx hbk hno hcl2 (hG.mt _ _ _ _ _ _ _ _ _ _ hg hv hob) hd
            · simp at h
          · simp at h
        · simp at h
    · simp at h
  · simp at h

theorem op_sound (hA : c.A = stdAr) (hTy : ∀ t, TyOk P t (c.T t)) (hG : GOk P c.G) (hc : Conc O B w0 L R fr hp a) {q : Out} (hB : isNew q.e = true → ¬ B.keep R.w.heap.size) (hn : isNew q.e = true → ¬ R.al n) (h : xop c (evF fr) hp n o.op = some q) (hob : Obs q.ob) {ob : Ob} :
    OpS P O B w0 L R fr hp n a o ⟨q.v, q.e, ob⟩ := by
  cases ho : o.op with
  | move x => rw [ho] at h; simp only [xop, Option.some.injEq] at h; subst h; exact op_move hc (.inl ho)
  | assign x => rw [ho] at h; simp only [xop, Option.some.injEq] at h; subst h; exact op_move hc (.inr ho)
  | alloc t =>
    rw [ho] at h; simp only [xop, hA] at h
    split at h
    · rename_i z hz
      simp only [Option.some.injEq] at h; subst h
      exact op_alloc hc (hB rfl) (hn rfl) ho (hTy t) hz
    · simp at h
  | box t x =>
    rw [ho] at h; simp only [xop] at h
    split at h
    · rename_i hx
      simp only [Option.some.injEq] at h; subst h
      exact op_box hc (hB rfl) (hn rfl) ho hx
    · simp at h
  | build t ps =>
    rw [ho] at h; simp only [xop, hA] at h
    have hTt := hTy t
    split at h
    · rename_i m k hsh
      rw [hsh] at hTt
      split at h
      · rename_i xs hxs
        simp only [Option.some.injEq] at h; subst h
        exact op_build_arr hc ho hTt hxs
      · simp at h
    · rename_i sh hsh
      rw [hsh] at hTt
      split at h
      · rename_i z hz
        split at h
        · rename_i l hl
          simp only [Option.some.injEq] at h; subst h
          exact op_build_st hc ho hTt hz hl
        · simp at h
      · simp at h
    · simp at h
  | load t x =>
    rw [ho] at h; simp only [xop] at h
    split at h
    · rename_i v hv
      simp only [Option.some.injEq] at h; subst h
      exact op_load hc hA hTy ho hv
    · simp at h
  | store t x y =>
    rw [ho] at h; simp only [xop] at h
    split at h
    · rename_i nm b hv
      simp only [Option.some.injEq] at h; subst h
      exact op_store hc hA hTy ho hv
    · simp at h
  | indexAddr t x y =>
    rw [ho] at h; simp only [xop, hA] at h
    have hTt := hTy t
    split at h
    · rename_i nm off hx
      split at h
      · rename_i m k hsh
        rw [hsh] at hTt
        split at h
        · rename_i l hl
          split at h
          · rename_i k' m' xs hch
            split at h
            · rename_i hm
              rw [eqN_eq] at hm
              subst hm
              split at h
              · rename_i i ob' hi
                simp only [Option.some.injEq] at h; subst h
                exact op_indexAddr_arr hc ho hTt hx hl hch hi hob
              · simp at h
            · simp at h
          · simp at h
        · simp at h
      · simp at h
    · rename_i k xs hx
      split at h
      · rename_i k0 hsh
        rw [hsh] at hTt
        split at h
        · rename_i i ob' hi
          simp only [Option.some.injEq] at h; subst h
          exact op_indexAddr_sli hc ho hTt hx hi hob
        · simp at h
      · simp at h
    · rename_i nm lo len hx
      split at h
      · rename_i k0 hsh
        rw [hsh] at hTt
        split at h
        · rename_i i ob' hi
          simp only [Option.some.injEq] at h; subst h
          exact op_indexAddr_osl hc ho hTt hx hi hob
        · simp at h
      · simp at h
    · simp at h
  | index t x y =>
    rw [ho] at h; simp only [xop, hA] at h
    have hTt := hTy t
    split at h
    · rename_i k m xs m' k0 hx hsh
      rw [hsh] at hTt
      split at h
      · rename_i hm
        rw [eqN_eq] at hm
        subst hm
        split at h
        · rename_i i ob' hi
          simp only [Option.some.injEq] at h; subst h
          exact op_index hc ho hTt hx hi hob
        · simp at h
      · simp at h
    · simp at h
  | fieldAddr t x f =>
    rw [ho] at h; simp only [xop] at h
    have hTt := hTy t
    split at h
    · rename_i nm off sh hx hsh
      rw [hsh] at hTt
      split at h
      · rename_i hf
        rw [leN_eq] at hf
        simp only [Option.some.injEq] at h; subst h
        exact op_fieldAddr hc ho hTt hx hf
      · simp at h
    · simp at h
  | field t x f =>
    rw [ho] at h; simp only [xop] at h
    have hTt := hTy t
    split at h
    · rename_i l sh hx hsh
      rw [hsh] at hTt
      split at h
      · rename_i hf
        rw [leN_eq] at hf
        split at h
        · rename_i v hch
          split at h
          · rename_i hfit
            simp only [Option.some.injEq] at h; subst h
            exact op_field hc ho hTt hx hf hch hfit
          · simp at h
        · simp at h
      · simp at h
    · simp at h
  | slice t x lo hi mx =>
    rw [ho] at h
    have hTt := hTy t
    cases mx with
    | some m =>
      cases hi with
      | none => simp [xop] at h
      | some hi =>
      simp only [xop, hA] at h
      split at h
      · rename_i k0 hsh
        rw [hsh] at hTt
        split at h
        · rename_i k xs hx
          split at h
          · rename_i l hh ob' hb
            simp only [Option.some.injEq] at h; subst h
            exact op_slice3_sli hc ho hTt hx hb hob
          · simp at h
        · rename_i nm lo0 len hx
          split at h
          · rename_i l hh ob' hb
            simp only [Option.some.injEq] at h; subst h
            exact op_slice3_osl hc ho hTt hx hb hob
          · simp at h
        · simp at h
      · simp at h
    | none =>
    simp only [xop, hA] at h
    split at h
    · rename_i nm off hx
      split at h
      · rename_i m k0 hsh
        rw [hsh] at hTt
        split at h
        · rename_i k m' xs hbk
          split at h
          · rename_i hm
            simp only [Bool.and_eq_true] at hm
            obtain ⟨h1, h2⟩ := hm
            have e1 : off = 0 := eqN_true h1.1
            have e2 := eqN_true h1.2
            rw [leN_eq] at h2
            subst e1 e2
            split at h
            · rename_i l hh ob' hb
              simp only [Option.some.injEq] at h; subst h
              exact op_slice_arr hc ho hTt hx hbk h2 hb hob
            · simp at h
          · simp at h
        · simp at h
      · simp at h
    · rename_i k xs hx
      split at h
      · rename_i k0 hsh
        rw [hsh] at hTt
        split at h
        · rename_i l hh ob' hb
          simp only [Option.some.injEq] at h; subst h
          exact op_slice_sli hc ho hTt hx hb hob
        · simp at h
      · simp at h
    · rename_i nm lo0 len hx
      split at h
      · rename_i k0 hsh
        rw [hsh] at hTt
        split at h
        · rename_i l hh ob' hb
          simp only [Option.some.injEq] at h; subst h
          exact op_slice_osl hc ho hTt hx hb hob
        · simp at h
      · simp at h
    · simp at h
  | sliceToArrayPointer t x =>
    rw [ho] at h; simp only [xop, hA] at h
    have hTt := hTy t
    split at h
    · rename_i nm lo len hx
      split at h
      · rename_i m k0 hsh
        rw [hsh] at hTt
        split at h
        · rename_i hm
          rw [leN_eq] at hm
          simp only [Option.some.injEq] at h; subst h
          exact op_s2a hc ho hTt hm hx (hob _ (List.mem_singleton.2 rfl))
        · simp at h
      · simp at h
    · simp at h
  | extract x i =>
    rw [ho] at h; simp only [xop] at h
    split at h
    · rename_i l hx
      split at h
      · rename_i hi
        rw [leN_eq] at hi
        simp only [Option.some.injEq] at h; subst h
        exact op_extract hc ho hx hi
      · simp at h
    · simp at h
  | binOp op t x y t' =>
    rw [ho] at h; simp only [xop] at h
    split at h
    · rename_i v ob' hv
      simp only [Option.some.injEq] at h; subst h
      exact op_binOp hc hA hTy ho hv hob
    · simp at h
  | unOp op t x =>
    rw [ho] at h; simp only [xop, hA] at h
    split at h
    · split at h
      · rename_i b hx
        simp only [Option.some.injEq] at h; subst h
        exact op_not hc ho (.inl ⟨b, hx, rfl⟩)
      · rename_i b hx
        simp only [Option.some.injEq] at h; subst h
        exact op_not hc ho (.inr ⟨b, hx, rfl⟩)
      · simp at h
    · split at h
      · rename_i k i hx
        simp only [Option.some.injEq] at h; subst h
        exact op_inv hc ho hx
      · simp at h
    · split at h
      · rename_i k i hx
        simp only [Option.some.injEq] at h; subst h
        exact op_neg hc ho hx
      · simp at h
    · simp at h
  | convert s t x =>
    rw [ho] at h; simp only [xop, hA] at h
    have hTs := hTy s
    have hTt := hTy t
    split at h
    · rename_i ks hs
      rw [hs] at hTs
      split at h
      · rename_i k ht
        rw [ht] at hTt
        split at h
        · rename_i kx m hx
          split at h
          · rename_i hm
            rw [leN_eq] at hm
            simp only [Option.some.injEq] at h; subst h
            exact op_convInt hc ho hTs hTt (kx := kx) (i := (m : Int)) (by rw [hx]; rfl) (.inr ⟨m, rfl, rfl, hm⟩)
          · simp only [Option.some.injEq] at h; subst h
            exact op_convInt hc ho hTs hTt (kx := kx) (i := (m : Int)) (by rw [hx]; rfl) (.inl rfl)
        · rename_i kx i hx
          simp only [Option.some.injEq] at h; subst h
          exact op_convInt hc ho hTs hTt (kx := kx) (i := i) (by rw [hx]; rfl) (.inl rfl)
        · simp at h
      · simp at h
    · rename_i hs
      rw [hs] at hTs
      split at h
      · rename_i ht
        rw [ht] at hTt
        split at h
        · rename_i xs hx
          simp only [Option.some.injEq] at h; subst h
          exact op_convStr hc ho hTs hTt hx
        · simp at h
      · simp at h
    · simp at h
  | call cl =>
    rw [ho] at h; simp only [xop, hA] at h
    split at h
    · rename_i b hcl
      exact bi_sound hA hTy hc hB hn ho hcl h hob
    · rename_i f hcl
      split at h
      · rename_i g hg
        split at h
        · rename_i l hl
          split at h
          · rename_i v ob' hv
            split at h
            · rename_i hd
              simp only [Option.some.injEq] at h; subst h
              exact op_fn hc ho hcl hl (hG.fn _ _ _ _ _ hg hv hob) (by simpa using hd)
            · simp only [Option.some.injEq] at h; subst h
              exact op_fnKill hc ho hcl hl (hG.fn _ _ _ _ _ hg hv hob)
          · simp at h
        · simp at h
      · rename_i g hg
        exact xmut_sound hA hG hc ho hcl hg h hob
      · simp at h
    · simp at h
  | makeFunc g fs cs =>
    cases g with
    | func f =>
      rw [ho] at h; simp only [xop] at h
      split at h
      · rename_i nm off hfs hcs
        obtain ⟨x, hcs', hx⟩ : ∃ x, cs.toList = [x] ∧ evF fr x = .ptr nm off := by
          cases hh : cs.toList with
          | nil => rw [hh] at hcs; simp [evL] at hcs
          | cons x l => cases l with
            | nil => rw [hh] at hcs; simp only [evL, List.cons.injEq, and_true] at hcs; exact ⟨x, rfl, hcs⟩
            | cons y l => rw [hh] at hcs; simp [evL] at hcs
        split at h
        · rename_i hz
          obtain rfl : off = 0 := eqN_true hz
          split at h
          · rename_i k xs hbk
            simp only [Option.some.injEq] at h; subst h
            exact op_itd hc ho hfs hcs' hx hbk
          · simp at h
        · simp at h
      · simp at h
    | _ => rw [ho] at h; simp [xop] at h
  | makeSlice t x y =>
    rw [ho] at h; simp only [xop, hA] at h
    have hTt := hTy t
    split at h
    · rename_i k hk
      rw [hk] at hTt
      split at h
      · rename_i k1 x' k2 y' hx hy
        simp only [Option.some.injEq] at h; subst h
        have h1 := hob (stdAr.cmp .leq 0 x', true) (by simp)
        have h2 := hob (stdAr.cmp .leq x' y', true) (by simp)
        have h3 := hob (stdAr.cmp .leq y' (stdAr.ofNat mostN), true) (by simp)
        simp [stdAr] at h1 h2 h3
        exact op_makeSlice hc (hB rfl) (hn rfl) ho hTt hx hy h1 h2 h3
      · simp at h
    · simp at h
  | buildSlice t m ps =>
    rw [ho] at h; simp only [xop, hA] at h
    have hTt := hTy t
    split at h
    · rename_i k hk
      rw [hk] at hTt
      split at h
      · rename_i hm
        rw [leN_eq] at hm
        split at h
        · rename_i xs hxs
          simp only [Option.some.injEq] at h; subst h
          exact op_buildSlice hc (hB rfl) (hn rfl) ho hTt hm hxs
        · simp at h
      · simp at h
    · simp at h
  | _ => rw [ho] at h; simp [xop] at h
end
end Go.Proofs.SX

namespace Go.Proofs.SX
open Go Go.RowKit
set_option linter.unusedVariables false
set_option linter.unusedSimpArgs false

/-! ### Lists as functions -/
theorem nth_upd : ∀ (l : List AV) (d : Nat) (v : AV) (t : Nat), nth (upd l d v) t = if t = d ∧ d < l.length then v else nth l t
  | [], d, v, t => by simp [upd, nth]
  | x :: l, 0, v, 0 => by simp [upd, nth]
  | x :: l, 0, v, t + 1 => by simp [upd, nth]
  | x :: l, d + 1, v, 0 => by simp [upd, nth]
  | x :: l, d + 1, v, t + 1 => by simp [upd, nth, nth_upd l d v t]
theorem len_upd : ∀ (l : List AV) (d : Nat) (v : AV), (upd l d v).length = l.length
  | [], _, _ => rfl
  | _ :: _, 0, _ => rfl
  | _ :: l, d + 1, v => by simp [upd, len_upd l d v]
theorem nth_putF (fr : List AV) (dst : Option Nat) (v : AV) : nth (putF fr dst v) = updF fr.length (nth fr) dst v := by
  cases dst with
  | none => rfl
  | some d => funext t; rw [updF_some]; exact nth_upd fr d v t
theorem len_putF (fr : List AV) (dst : Option Nat) (v : AV) : (putF fr dst v).length = fr.length := by
  cases dst with
  | none => rfl
  | some d => exact len_upd fr d v
theorem lenB_length : ∀ l : List Blk, lenB l = l.length
  | [] => rfl
  | _ :: l => by simp [lenB, lenB_length l]
theorem nthB_updB : ∀ (l : List Blk) (d : Nat) (v : Blk) (t : Nat), nthB (updB l d v) t = if t = d ∧ d < lenB l then v else nthB l t
  | [], d, v, t => by simp [updB, nthB, lenB]
  | x :: l, 0, v, 0 => by simp [updB, nthB, lenB]
  | x :: l, 0, v, t + 1 => by simp [updB, nthB]
  | x :: l, d + 1, v, 0 => by simp [updB, nthB]
  | x :: l, d + 1, v, t + 1 => by simp [updB, nthB, lenB, nthB_updB l d v t]
theorem lenB_updB : ∀ (l : List Blk) (d : Nat) (v : Blk), lenB (updB l d v) = lenB l
  | [], _, _ => rfl
  | _ :: _, 0, _ => rfl
  | _ :: l, d + 1, v => by simp [updB, lenB, lenB_updB l d v]
theorem nthB_append : ∀ (l : List Blk) (b : Blk) (t : Nat), nthB (l ++ [b]) t = if t = lenB l then b else nthB l t
  | [], b, 0 => by simp [nthB, lenB]
  | [], b, t + 1 => by simp [nthB, lenB]
  | x :: l, b, 0 => by simp [nthB, lenB]
  | x :: l, b, t + 1 => by simp [nthB, lenB, nthB_append l b t]
theorem lenB_append (l : List Blk) (b : Blk) : lenB (l ++ [b]) = lenB l + 1 := by simp [lenB_length]
theorem nthB_lt : ∀ {l : List Blk} {t : Nat}, nthB l t ≠ .gone → t < lenB l
  | [], t, h => absurd rfl h
  | x :: l, 0, h => by simp [lenB]
  | x :: l, t + 1, h => by have := nthB_lt (l := l) (t := t) h; simp [lenB]; omega

/-- A written block is one of those that are there. -/
def effLive (hp : Nat → Blk) : Eff → Prop
  | .wr nm _ => hp nm ≠ .gone
  | .mv nm _ => hp nm ≠ .gone
  | _ => True

theorem nthB_ge : ∀ {l : List Blk} {t : Nat}, lenB l ≤ t → nthB l t = .gone
  | [], _, _ => rfl
  | _ :: _, 0, h => by simp [lenB] at h
  | _ :: l, t + 1, h => by simp only [nthB]; exact nthB_ge (by simp only [lenB] at h; omega)
theorem lenB_killB (hp : List Blk) : ∀ l : List Nat, lenB (killB hp l) = lenB hp
  | [] => rfl
  | nm :: l => by rw [killB, lenB_updB, lenB_killB hp l]
theorem nthB_killB (hp : List Blk) : ∀ (l : List Nat) (t : Nat), nthB (killB hp l) t = if mem t l then .gone else nthB hp t
  | [], t => by simp [killB, mem]
  | nm :: l, t => by
    rw [killB, nthB_updB, nthB_killB hp l t, lenB_killB]
    by_cases h : t = nm
    · subst h
      by_cases h2 : t < lenB hp
      · simp [h2, mem]
      · rw [if_neg (fun hh => h2 hh.2), nthB_ge (by omega)]; simp
    · rw [if_neg (fun hh => h hh.1)]
      have hm : mem t (nm :: l) = mem t l := by
        have : eqN t nm = false := by
          cases hb : eqN t nm with
          | false => rfl
          | true => exact absurd (eqN_true hb) h
        show Bool.or (eqN t nm) (mem t l) = _
        rw [this]; rfl
      show _ = if mem t (nm :: l) = true then _ else _
      rw [hm]

theorem nthB_putE (hp : List Blk) (e : Eff) (h : effLive (nthB hp) e) : nthB (putE hp e) = putH (nthB hp) (lenB hp) e := by
  funext t
  cases e with
  | none => rfl
  | new b => exact nthB_append hp b t
  | wr nm b =>
    have := nthB_lt h
    simp only [putE, putH, nthB_updB]
    by_cases ht : t = nm
    · rw [if_pos ⟨ht, this⟩, if_pos ht]
    · rw [if_neg (fun hh => ht hh.1), if_neg ht]
  | kill l => exact nthB_killB hp l t
  | mv nm b =>
    have := nthB_lt h
    simp only [putE, putH, nthB_append, lenB_updB, nthB_updB]
    by_cases ht : t = lenB hp
    · rw [if_pos ht, if_pos ht]
    · rw [if_neg ht, if_neg ht]
      by_cases ht2 : t = nm
      · rw [if_pos ⟨ht2, this⟩, if_pos ht2]
      · rw [if_neg (fun hh => ht2 hh.1), if_neg ht2]
theorem lenB_putE (hp : List Blk) (e : Eff) : lenB (putE hp e) = lenB hp + (if isNew e then 1 else 0) := by
  cases e <;> simp [putE, isNew, lenB_append, lenB_updB, lenB_killB]

theorem storeAV_live {c : Cx} {get : Nat → Blk} {t : TypeId} {x y : AV} {nm : Nat} {b : Blk} (h : storeAV c get t x y = some (nm, b)) : get nm ≠ .gone := by
  unfold storeAV at h
  intro hg
  split at h
  · rename_i m off
    cases hh : get m with
    | cells l =>
      rw [hh] at h
      simp only at h
      split at h
      · split at h
        · simp only [Option.some.injEq, Prod.mk.injEq] at h
          obtain ⟨rfl, rfl⟩ := h
          rw [hh] at hg; simp at hg
        · simp at h
      · simp at h
    | row k xs => rw [hh] at h; simp at h
    | gone => rw [hh] at h; simp at h
  · rename_i m off i
    split at h
    · split at h
      · cases hh : get m with
        | cells l =>
          rw [hh] at h
          simp only at h
          split at h
          · split at h
            · split at h
              · simp only [Option.some.injEq, Prod.mk.injEq] at h
                obtain ⟨rfl, rfl⟩ := h
                rw [hh] at hg; simp at hg
              · simp at h
            · simp at h
          · simp at h
        | row k xs =>
          rw [hh] at h
          simp only at h
          split at h
          · simp only [Option.some.injEq, Prod.mk.injEq] at h
            obtain ⟨rfl, rfl⟩ := h
            rw [hh] at hg; simp at hg
          · simp at h
        | gone => rw [hh] at h; simp at h
      · simp at h
    · simp at h
  · simp at h

theorem xbi_live {c : Cx} {ev : Operand → AV} {get : Nat → Blk} {n : Nat} {b : Builtin} {ts : List TypeId} {os : List Operand} {q : Out} (h : xbi c ev get n b ts os = some q) : effLive get q.e := by
  unfold xbi at h
  repeat' (split at h <;> try (simp at h; done))
  all_goals (simp only [Option.some.injEq] at h; subst h)
  all_goals first
    | trivial
    | (rename_i hb _ _; show get _ ≠ Blk.gone; rw [hb]; simp; done)
theorem xmut_live {c : Cx} {get : Nat → Blk} {g : IntKind → List Int → Int → Int → List AV → Option (AV × List Int × Ob)} {l : List AV} {q : Out} (h : xmut c get g l = some q) : effLive get q.e := by
  unfold xmut at h
  split at h
  · split at h
    · rename_i hb
      repeat' (split at h <;> try (simp at h; done))
      all_goals (simp only [Option.some.injEq] at h; subst h; show get _ ≠ Blk.gone; rw [hb]; simp)
    · simp at h
  · simp at h
theorem xop_live {c : Cx} {ev : Operand → AV} {get : Nat → Blk} {n : Nat} {op : Op} {q : Out} (h : xop c ev get n op = some q) : effLive get q.e := by
  cases op <;> simp only [xop] at h
  case store t x y =>
    split at h
    · rename_i nm b hv
      simp only [Option.some.injEq] at h; subst h
      exact storeAV_live hv
    · simp at h
  case call cl =>
    split at h
    · exact xbi_live h
    · repeat' (split at h <;> try (simp at h; done))
      all_goals first
        | exact xmut_live h
        | (simp only [Option.some.injEq] at h; subst h; trivial)
    · simp at h
  all_goals first
    | (simp at h; done)
    | (repeat' (split at h <;> try (simp at h; done)))
  all_goals first | (simp only [Option.some.injEq] at h; subst h; trivial) | (exact xbi_live h) | (exact xmut_live h)

section
variable {P : Program} {O : Nat → Prop} {B : Bd} {w0 : World} {L : Nat} {R : RC} {fr : Nat → AV} {hp : Nat → Blk} {n : Nat} {a : Act} {o : Oper} {c : Cx}

theorem nthOp_eq : ∀ (l : List Oper) (j : Nat), nthOp l j = l[j]?
  | [], _ => by simp [nthOp]
  | _ :: _, 0 => by simp [nthOp]
  | _ :: l, j + 1 => by simp [nthOp, nthOp_eq l j]

theorem ask_spec {x : AV} {v : Value} {ds ds' : List Bool} {b : Bool} {ob : Ob} (h : ask ds x = some (b, ds', ob)) (hob : Obs ob) (hv : VR R x v) : v = .bool b := by
  unfold ask at h
  split at h
  · simp only [Option.some.injEq, Prod.mk.injEq] at h
    obtain ⟨rfl, rfl, rfl⟩ := h
    exact hv
  · split at h
    · simp only [Option.some.injEq, Prod.mk.injEq] at h
      obtain ⟨rfl, rfl, rfl⟩ := h
      have := hob _ (List.mem_singleton.2 rfl)
      simp only at this
      rw [← this]; exact hv
    · simp at h
  · simp at h

theorem obs_append {p q : Ob} (h : Obs (p ++ q)) : Obs p ∧ Obs q := ⟨fun x hx => h x (List.mem_append_left _ hx), fun x hx => h x (List.mem_append_right _ hx)⟩

/-- One operation of a region comes to what the executor says. -/
theorem step_sound (hA : c.A = stdAr) (hTy : ∀ t, TyOk P t (c.T t)) (hG : GOk P c.G) {ops : Array Oper} (hc : Conc O B w0 L R fr hp a) (hna : B.na = c.na) (hB : NewOk B R.w) {ds ds' : List Bool} {q : Out} (hn : isNew q.e = true → ¬ R.al n) {i : Nat} (hi : ops[i]? = some o)
    (h : xstep c ops.toList fr hp n ds o = some (q, ds')) (hob : Obs q.ob) {K : Act → World → Prop} {Q : Exit → Act → World → Prop}
    (hK : ∀ a' R', Conc O B w0 L R' (updF L fr o.dst q.v) (putH hp n q.e) a' → AlN R R' n q.e → Rel R R' → K a' R'.w) {rd : Option Nat} {nn : Nat} :
    wpOpIn (rF rd) nn P ops Q i K a R.w ∧ effLive hp q.e := by
  unfold wpOpIn
  rw [hi]
  simp only
  unfold xstep at h
  have wan : ∀ {b : Bool} {ds1 : List Bool} {ob : Ob}, wantedAV ops.toList fr ds o = some (b, ds1, ob) → Obs ob → Region.wanted o (yielded ops a.tmps) = b := by
    intro b ds1 ob hw hob
    unfold wantedAV at hw
    unfold Region.wanted
    split at hw
    · rename_i hg
      simp only [Option.some.injEq, Prod.mk.injEq] at hw
      rw [hg, ← hw.1]
    · rename_i j want hg
      rw [hg]
      simp only
      split at hw
      · rename_i g hgj
        rw [nthOp_eq] at hgj
        have hgj' : ops[j]? = some g := by rw [← Array.getElem?_toList]; exact hgj
        split at hw
        · rename_i d hd
          split at hw
          · rename_i hfd
            simp only [Option.some.injEq, Prod.mk.injEq] at hw
            obtain ⟨hb, rfl, rfl⟩ := hw
            have hv := hc.tm d
            rw [hfd] at hv
            obtain ⟨vs, hv1, hv2⟩ := hv
            have : vs = [] := hv2
            subst this
            have hy : yielded ops a.tmps j = none := by
              unfold yielded
              simp only [hgj', Option.bind_some, hd]
              rw [Array.getD_eq_getD_getElem?] at hv1
              cases he : a.tmps[d]? with
              | none => simp [he]
              | some u => rw [he] at hv1; simp at hv1; subst hv1; simp [he]
            rw [hy, ← hb]
            rfl
          · split at hw
            · rename_i b' ds2 ob2 ha
              simp only [Option.some.injEq, Prod.mk.injEq] at hw
              obtain ⟨hb, rfl, rfl⟩ := hw
              have hv := ask_spec ha hob (hc.tm d)
              have hy : yielded ops a.tmps j = some b' := by
                unfold yielded
                simp only [hgj', Option.bind_some, hd]
                rw [Array.getD_eq_getD_getElem?] at hv
                cases he : a.tmps[d]? with
                | none => rw [he] at hv; simp [undef] at hv
                | some u => rw [he] at hv; simp at hv; subst hv; simp [he]
              rw [hy, ← hb]
              cases b' <;> cases want <;> rfl
            · simp at hw
        · simp at hw
      · simp at hw
  split at h
  · rename_i ds1 ob hw
    simp only [Option.some.injEq, Prod.mk.injEq] at h
    obtain ⟨rfl, rfl⟩ := h
    rw [wan hw hob]
    refine ⟨?_, trivial⟩
    simp only [Bool.false_eq_true, if_false]
    exact ⟨fun _ _ => trivial, hK _ R (hc.plain n o.dst (x := .tup []) (v := undef) ⟨[], rfl, rfl⟩) (fun m => by simp [isNew]) (Rel.refl _)⟩
  · rename_i ds1 ob hw
    split at h
    · rename_i x y z hop
      split at h
      · rename_i t ds2 ob2 ha
        simp only [Option.some.injEq, Prod.mk.injEq] at h
        obtain ⟨rfl, rfl⟩ := h
        obtain ⟨h1, h2⟩ := obs_append hob
        rw [wan hw h2]
        refine ⟨?_, trivial⟩
        simp only [if_true]
        have hv := ask_spec ha h1 (hc.ev x)
        refine OpS.value (n := n) (ob := []) hc (v := if t = true then a.eval y else a.eval z) ?_ ?_ (fun c e => by rw [hop] at e; cases e) K Q rd nn hK
        · simp [execOp, hop, hv, asBool]
        · cases t
          · exact hc.ev z
          · exact hc.ev y
      · simp at h
    · split at h
      · rename_i q' hq
        split at h
        · simp at h
        rename_i hnw
        simp only [Option.some.injEq, Prod.mk.injEq] at h
        obtain ⟨rfl, rfl⟩ := h
        obtain ⟨h1, h2⟩ := obs_append hob
        rw [wan hw h2]
        have hlive := xop_live hq
        refine ⟨?_, hlive⟩
        simp only [if_true]
        have hB' : isNew q'.e = true → ¬ B.keep R.w.heap.size := fun hi => by
          rw [hi, Bool.and_true] at hnw
          exact hB (hna.trans hnw) _ (Nat.le_refl _)
        exact op_sound (q := q') (ob := []) hA hTy hG hc hB' hn hq h1 (fun c e => by rw [e] at hq; simp [xop] at hq) K Q rd nn hK
      · simp at h
  · simp at h
end
end Go.Proofs.SX

namespace Go.Proofs.SX
open Go Go.RowKit
set_option linter.unusedVariables false
set_option linter.unusedSimpArgs false

def slotsL : List Operand → List Nat
  | [] => []
  | .tmp t :: l => t :: slotsL l
  | _ :: l => slotsL l
/-- Two states agree on what an operation's operands name. -/
structure Agree (ev ev' : Operand → AV) (get get' : Nat → Blk) (xs : List Operand) : Prop where
  evs : ∀ x ∈ xs, ev' x = ev x
  gets : ∀ x ∈ xs, ∀ nm ∈ nmOf (ev x), get' nm = get nm

section
variable {c : Cx} {ev ev' : Operand → AV} {get get' : Nat → Blk} {n : Nat}

theorem evL_agree : ∀ {l : List Operand}, (∀ x ∈ l, ev' x = ev x) → evL ev' l = evL ev l
  | [], _ => rfl
  | x :: l, h => by simp only [evL]; rw [h x (by simp), evL_agree (fun y hy => h y (by simp [hy]))]
theorem evP_agree : ∀ {l : List (Nat × Operand)}, (∀ x ∈ l.map (·.2), ev' x = ev x) → evP ev' l = evP ev l
  | [], _ => rfl
  | (i, x) :: l, h => by simp only [evP]; rw [h x (by simp), evP_agree (fun y hy => h y (by simp at hy ⊢; exact .inr hy))]
theorem closeAV_agree {A : Ar} {x : AV} (h : ∀ nm ∈ nmOf x, get' nm = get nm) : closeAV A get' x = closeAV A get x := by
  cases x <;> simp only [closeAV]
  rename_i nm lo len
  rw [h nm (by simp [nmOf])]
theorem closeL_agree {A : Ar} : ∀ {l : List Operand}, (∀ x ∈ l, ∀ nm ∈ nmOf (ev x), get' nm = get nm) → closeL A get' (evL ev l) = closeL A get (evL ev l)
  | [], _ => rfl
  | x :: l, h => by
    simp only [evL, closeL]
    rw [closeAV_agree (h x (by simp)), closeL_agree (fun y hy => h y (by simp [hy]))]
theorem loadAV_agree {t : TypeId} {x : AV} (h : ∀ nm ∈ nmOf x, get' nm = get nm) : loadAV c get' t x = loadAV c get t x := by
  cases x <;> simp only [loadAV]
  · rename_i nm off; rw [h nm (by simp [nmOf])]
  · rename_i nm off i; rw [h nm (by simp [nmOf])]
  · rename_i nm lo m; rw [h nm (by simp [nmOf])]
theorem storeAV_agree {t : TypeId} {x y : AV} (h : ∀ nm ∈ nmOf x, get' nm = get nm) : storeAV c get' t x y = storeAV c get t x y := by
  cases x <;> simp only [storeAV]
  · rename_i nm off; rw [h nm (by simp [nmOf])]
  · rename_i nm off i; rw [h nm (by simp [nmOf])]

theorem xbi_agree {b : Builtin} {ts : List TypeId} {os : List Operand} (h3 : ∀ x ∈ os, ev' x = ev x) (h4 : ∀ x ∈ os, ∀ nm ∈ nmOf (ev x), get' nm = get nm) : xbi c ev' get' n b ts os = xbi c ev get n b ts os := by
  have two : ∀ {o1 o2 : Operand}, os = [o1, o2] → ev' o1 = ev o1 ∧ closeAV c.A get' (ev' o2) = closeAV c.A get (ev o2) ∧ (∀ nm lo len, ev o1 = .osl nm lo len → get' nm = get nm) := by
    intro o1 o2 ho
    subst ho
    refine ⟨h3 o1 (by simp), ?_, fun nm lo len he => h4 o1 (by simp) nm (by rw [he]; simp [nmOf])⟩
    rw [h3 o2 (by simp)]
    exact closeAV_agree (h4 o2 (by simp))
  cases b <;> simp only [xbi] <;> try rw [evL_agree h3]
  all_goals
    split
    · split
      · split
        · split
          · next o1 o2 =>
            obtain ⟨e1, e2, e3⟩ := two rfl
            rw [e1, e2]
            cases he : ev o1 with
            | osl nm lo len => simp only [e3 _ _ _ he]
            | _ => rfl
          · rfl
        · rfl
      · rfl
    · rfl
theorem xmut_agree {g : IntKind → List Int → Int → Int → List AV → Option (AV × List Int × Ob)} {os : List Operand} (h3 : ∀ x ∈ os, ev' x = ev x) (h4 : ∀ x ∈ os, ∀ nm ∈ nmOf (ev x), get' nm = get nm) : xmut c get' g (evL ev' os) = xmut c get g (evL ev os) := by
  rw [evL_agree h3]
  cases os with
  | nil => rfl
  | cons o os =>
    simp only [evL]
    unfold xmut
    split
    · rename_i nm lo len rest hl
      simp only [List.cons.injEq] at hl
      rw [h4 o (by simp) nm (by rw [hl.1]; simp [nmOf]), ← hl.2, closeL_agree (fun x hx => h4 x (by simp [hx]))]
    · rfl
theorem xop_agree {op : Op} (h : Agree ev ev' get get' op.operands.toList) : xop c ev' get' n op = xop c ev get n op := by
  have h1 := h.evs
  have h2 := h.gets
  cases op <;> simp only [Op.operands, Call.operands] at h1 h2 <;> simp only [xop]
  case move x => rw [h1 x (by simp)]
  case assign x => rw [h1 x (by simp)]
  case box t x => rw [h1 x (by simp)]
  case build t ps => rw [evP_agree (by simpa using h1)]
  case load t x => rw [h1 x (by simp), loadAV_agree (h2 x (by simp))]
  case store t x y => rw [h1 x (by simp), h1 y (by simp), storeAV_agree (h2 x (by simp))]
  case indexAddr t x y =>
    rw [h1 x (by simp), h1 y (by simp)]
    have := h2 x (by simp)
    cases he : ev x <;> simp only []
    rename_i nm off
    rw [he] at this
    rw [this nm (by simp [nmOf])]
  case slice t x lo hi mx =>
    have hb : ∀ {d : Int} {b : Option Operand}, (∀ p, b = some p → ev' p = ev p) → bnd c.A ev' d b = bnd c.A ev d b := by
      intro d b hb
      cases b with
      | none => rfl
      | some p => simp only [bnd]; rw [hb p rfl]
    have hlo : ∀ p, lo = some p → ev' p = ev p := fun p hp => h1 p (by subst hp; simp)
    have hhi : ∀ p, hi = some p → ev' p = ev p := fun p hp => h1 p (by subst hp; simp)
    have hbs : ∀ {len : Int}, bnds c.A ev' lo hi len = bnds c.A ev lo hi len := by
      intro len; unfold bnds; rw [hb hlo, hb hhi]
    cases mx with
    | some m =>
      cases hi with
      | none => rfl
      | some hi =>
      have hb3 : ∀ {len : Int}, bnds3 c.A ev' lo hi m len = bnds3 c.A ev lo hi m len := by
        intro len; unfold bnds3; rw [hb hlo, h1 hi (by simp), h1 m (by simp)]
      simp only [xop]
      rw [h1 x (by simp)]
      simp only [hb3]
    | none =>
    simp only [xop]
    rw [h1 x (by simp)]
    have := h2 x (by simp)
    simp only [hbs]
    cases he : ev x <;> simp only []
    rename_i nm off
    rw [he] at this
    rw [this nm (by simp [nmOf])]
  case makeFunc g fs cs =>
    cases g with
    | func f =>
      have h3 : ∀ x ∈ cs.toList, ev' x = ev x := fun x hx => h1 x (by simp at hx ⊢; exact .inr hx)
      have h4 : ∀ x ∈ cs.toList, ∀ nm ∈ nmOf (ev x), get' nm = get nm := fun x hx => h2 x (by simp at hx ⊢; exact .inr hx)
      simp only [xop]
      rw [evL_agree h3]
      split
      · rename_i nm off hfs hcs
        obtain ⟨x, hx, he⟩ : ∃ x, x ∈ cs.toList ∧ ev x = .ptr nm off := by
          cases hh : cs.toList with
          | nil => rw [hh] at hcs; simp [evL] at hcs
          | cons x l => rw [hh] at hcs; simp only [evL, List.cons.injEq] at hcs; exact ⟨x, by simp, hcs.1⟩
        rw [h4 x hx nm (by rw [he]; simp [nmOf])]
      · rfl
    | _ => rfl
  case makeSlice t x y => rw [h1 x (by simp), h1 y (by simp)]
  case buildSlice t m ps => rw [evP_agree (by simpa using h1)]
  case sliceToArrayPointer t x => rw [h1 x (by simp)]
  case index t x y => rw [h1 x (by simp), h1 y (by simp)]
  case fieldAddr t x f => rw [h1 x (by simp)]
  case field t x f => rw [h1 x (by simp)]
  case extract x i => rw [h1 x (by simp)]
  case binOp op t x y t' => rw [h1 x (by simp), h1 y (by simp)]
  case unOp op t x => rw [h1 x (by simp)]
  case convert s t x => rw [h1 x (by simp), closeAV_agree (h2 x (by simp))]
  case call cl =>
    have h3 : ∀ x ∈ cl.args.toList, ev' x = ev x := fun x hx => h1 x (by simp at hx ⊢; exact .inr hx)
    have h4 : ∀ x ∈ cl.args.toList, ∀ nm ∈ nmOf (ev x), get' nm = get nm := fun x hx => h2 x (by simp at hx ⊢; exact .inr hx)
    have e1 : closeL c.A get' (evL ev cl.args.toList) = closeL c.A get (evL ev cl.args.toList) := closeL_agree h4
    have e2 : ∀ b, xbi c ev' get' n b cl.argTypes.toList cl.args.toList = xbi c ev get n b cl.argTypes.toList cl.args.toList := fun b => xbi_agree h3 h4
    have e3 : ∀ g, xmut c get' g (evL ev cl.args.toList) = xmut c get g (evL ev cl.args.toList) := fun g => by rw [← xmut_agree h3 h4, evL_agree h3]
    simp only [e2, evL_agree h3, e1, e3]
end

/-- The slots that an operation looks at. -/
def rdOf (all : List Oper) (o : Oper) : List Nat :=
  (match o.guard with
    | some (j, _) => match nthOp all j with
      | some g => match g.dst with
        | some d => [d]
        | none => []
      | none => []
    | none => []) ++ slotsL o.op.operands.toList
def nrOf (fr : Nat → AV) (o : Oper) : List Nat := nmsOf (evL (evF fr) o.op.operands.toList)

theorem slotsL_mem : ∀ {l : List Operand} {t : Nat}, Operand.tmp t ∈ l → t ∈ slotsL l
  | [], _, h => by simp at h
  | x :: l, t, h => by
    rcases List.mem_cons.1 h with h | h
    · subst h; simp [slotsL]
    · have ih := slotsL_mem h
      cases x <;> simp only [slotsL, List.mem_cons] <;> first | exact .inr ih | exact ih
theorem nmsOf_mem {ev : Operand → AV} : ∀ {l : List Operand} {x : Operand} {nm : Nat}, x ∈ l → nm ∈ nmOf (ev x) → nm ∈ nmsOf (evL ev l)
  | [], _, _, h, _ => by simp at h
  | y :: l, x, nm, h, hn => by
    simp only [evL, nmsOf, List.mem_append]
    rcases List.mem_cons.1 h with h | h
    · subst h; exact .inl hn
    · exact .inr (nmsOf_mem h hn)

theorem xstep_agree {c : Cx} {all : List Oper} {fr fr' : Nat → AV} {get get' : Nat → Blk} {n : Nat} {ds : List Bool} {o : Oper} (h1 : ∀ t ∈ rdOf all o, fr' t = fr t) (h2 : ∀ nm ∈ nrOf fr o, get' nm = get nm) :
    xstep c all fr' get' n ds o = xstep c all fr get n ds o := by
  have hw : wantedAV all fr' ds o = wantedAV all fr ds o := by
    unfold wantedAV
    cases hg : o.guard with
    | none => rfl
    | some p =>
      obtain ⟨j, want⟩ := p
      simp only
      cases hj : nthOp all j with
      | none => rfl
      | some g =>
        simp only
        cases hd : g.dst with
        | none => rfl
        | some d =>
          simp only
          rw [h1 d (by simp [rdOf, hg, hj, hd])]
  have hev : ∀ x ∈ o.op.operands.toList, evF fr' x = evF fr x := by
    intro x hx
    cases x with
    | tmp t => exact h1 t (by simp only [rdOf, List.mem_append]; exact .inr (slotsL_mem hx))
    | _ => rfl
  have hag : Agree (evF fr) (evF fr') get get' o.op.operands.toList := ⟨hev, fun x hx nm hn => h2 nm (nmsOf_mem hx hn)⟩
  unfold xstep
  rw [hw]
  cases hwv : wantedAV all fr ds o with
  | none => rfl
  | some p =>
    obtain ⟨b, ds1, ob⟩ := p
    cases b with
    | false => rfl
    | true =>
      simp only
      have hx := xop_agree (c := c) (n := n) hag
      cases hop : o.op with
      | pick x y z =>
        rw [hop] at hev
        simp only
        rw [hev x (by simp [Op.operands]), hev y (by simp [Op.operands]), hev z (by simp [Op.operands])]
      | _ => rw [hop] at hx; simp only [hx]
end Go.Proofs.SX

namespace Go.Proofs.SX
open Go Go.RowKit
set_option linter.unusedVariables false
set_option linter.unusedSimpArgs false

/-! ### What is checked -/
/-- A step of the text's order. -/
structure Tr where
  q : Out
  n : Nat
  rd : List Nat
  nr : List Nat
  dst : Option Nat
  ds : List Bool
  deriving Inhabited

def meets : List Nat → List Nat → Bool
  | [], _ => false
  | x :: l, m => Bool.or (mem x m) (meets l m)
def touched (e : Eff) (n : Nat) : List Nat :=
  match e with
  | .none => []
  | .new _ => [n]
  | .wr nm _ => [nm]
  | .mv nm _ => [nm, n]
  | .kill l => l
def dstL : Option Nat → List Nat
  | some d => [d]
  | none => []
/-- May two steps not change places? -/
def conf (x y : Tr) : Bool :=
  Bool.or (Bool.or (meets (dstL x.dst) y.rd) (meets (dstL x.dst) (dstL y.dst))) (Bool.or (meets (dstL y.dst) x.rd)
    (Bool.or (Bool.or (meets (touched x.q.e x.n) y.nr) (meets (touched x.q.e x.n) (touched y.q.e y.n))) (meets (touched y.q.e y.n) x.nr)))

def predL : List Edge → List Nat
  | [] => []
  | e :: l => match e.ground with
    | .textOnly _ => predL l
    | .gcOnly _ => predL l
    | _ => e.on :: predL l
def orL : List Bool → List Bool → List Bool
  | [], m => m
  | l, [] => l
  | x :: l, y :: m => Bool.or x y :: orL l m
def oneL : Nat → List Bool
  | 0 => [true]
  | n + 1 => false :: oneL n
def nthL : List (List Bool) → Nat → List Bool
  | [], _ => []
  | x :: _, 0 => x
  | _ :: l, n + 1 => nthL l n
def nthb : List Bool → Nat → Bool
  | [], _ => false
  | x :: _, 0 => x
  | _ :: l, n + 1 => nthb l n
def unionP (acc : List (List Bool)) : List Nat → List Bool
  | [] => []
  | p :: l => orL (orL (oneL p) (nthL acc p)) (unionP acc l)
/-- For each operation: what must have come before it. -/
def befs : List Oper → List (List Bool) → List (List Bool)
  | [], acc => acc
  | o :: l, acc => befs l (acc ++ [unionP acc (predL o.after.toList)])
def allLt (j : Nat) : List Nat → Bool
  | [] => true
  | p :: l => Bool.and (leN (p + 1) j) (allLt j l)
def edgesOk : Nat → List Oper → Bool
  | _, [] => true
  | j, o :: l => Bool.and (allLt j (predL o.after.toList)) (edgesOk (j + 1) l)
def chk1 (y : Tr) (b : List Bool) : Nat → List Tr → Bool
  | _, [] => true
  | i, x :: l => Bool.and (Bool.or (Bool.not (conf x y)) (nthb b i)) (chk1 y b (i + 1) l)
def chk (bs : List (List Bool)) : List Tr → Nat → List Tr → Bool
  | _, _, [] => true
  | done, j, y :: l => Bool.and (chk1 y (nthL bs j) 0 done) (chk bs (done ++ [y]) (j + 1) l)
def orderOk (ops : List Oper) (ts : List Tr) : Bool := Bool.and (edgesOk 0 ops) (chk (befs ops []) [] 0 ts)

/-- The operations in the order of the text, with what each looked at. -/
def xtrace (c : Cx) (all : List Oper) : List Oper → XR → Option (List Tr × XR)
  | [], r => some ([], r)
  | o :: l, r => match xstep c all (nth r.s.fr) (nthB r.s.hp) (lenB r.s.hp) r.ds o with
    | some (q, ds) => match xtrace c all l ⟨⟨putF r.s.fr o.dst q.v, putE r.s.hp q.e⟩, ds, q.ob ++ r.ob⟩ with
      | some (ts, r') => some (⟨q, lenB r.s.hp, rdOf all o, nrOf (nth r.s.fr) o, o.dst, r.ds⟩ :: ts, r')
      | none => none
    | none => none

/-! ### What the check says -/
theorem meets_iff : ∀ {l m : List Nat}, meets l m = true ↔ ∃ x, x ∈ l ∧ x ∈ m
  | [], m => by simp [meets]
  | x :: l, m => by
    simp only [meets, Bool.or_eq_true, mem_iff, meets_iff (l := l), List.mem_cons]
    constructor
    · rintro (h | ⟨y, h1, h2⟩)
      · exact ⟨x, .inl rfl, h⟩
      · exact ⟨y, .inr h1, h2⟩
    · rintro ⟨y, rfl | h1, h2⟩
      · exact .inl h2
      · exact .inr ⟨y, h1, h2⟩

/-- Two steps that may change places. -/
structure Free (x y : Tr) : Prop where
  rd1 : ∀ d, x.dst = some d → d ∉ y.rd
  dd : ∀ d, x.dst = some d → y.dst ≠ some d
  rd2 : ∀ d, y.dst = some d → d ∉ x.rd
  nr1 : ∀ m ∈ touched x.q.e x.n, m ∉ y.nr
  tt : ∀ m ∈ touched x.q.e x.n, m ∉ touched y.q.e y.n
  nr2 : ∀ m ∈ touched y.q.e y.n, m ∉ x.nr

theorem free_of {x y : Tr} (h : conf x y = false) : Free x y := by
  unfold conf at h
  simp only [Bool.or_eq_false_iff] at h
  obtain ⟨⟨h1, h2⟩, h3, ⟨h4, h5⟩, h6⟩ := h
  have no : ∀ {l m : List Nat}, meets l m = false → ∀ z, z ∈ l → z ∉ m := by
    intro l m hh z hz hm
    have : meets l m = true := meets_iff.2 ⟨z, hz, hm⟩
    rw [hh] at this; simp at this
  refine ⟨fun d hd => no h1 d (by rw [hd]; simp [dstL]), fun d hd he => no h2 d (by rw [hd]; simp [dstL]) (by rw [he]; simp [dstL]), fun d hd => no h3 d (by rw [hd]; simp [dstL]), no h4, no h5, no h6⟩

theorem Free.symm {x y : Tr} (h : Free x y) : Free y x :=
  ⟨h.rd2, fun d hd he => h.dd d he hd, h.rd1, h.nr2, fun m hm hm' => h.tt m hm' hm, h.nr1⟩

theorem nthb_orL : ∀ (l m : List Bool) (i : Nat), nthb (orL l m) i = (nthb l i || nthb m i)
  | [], m, i => by simp [orL, nthb]
  | x :: l, [], i => by simp [orL, nthb]
  | x :: l, y :: m, 0 => by simp [orL, nthb]
  | x :: l, y :: m, i + 1 => by simp [orL, nthb, nthb_orL l m i]
theorem nthb_oneL : ∀ (p i : Nat), nthb (oneL p) i = true ↔ i = p
  | 0, 0 => by simp [oneL, nthb]
  | 0, i + 1 => by simp [oneL, nthb]
  | p + 1, 0 => by simp [oneL, nthb]
  | p + 1, i + 1 => by simp [oneL, nthb, nthb_oneL p i]
theorem nthL_append_lt : ∀ (l : List (List Bool)) (x : List Bool) (i : Nat), i < l.length → nthL (l ++ [x]) i = nthL l i
  | [], _, _, h => by simp at h
  | y :: l, x, 0, _ => rfl
  | y :: l, x, i + 1, h => by simp [nthL]; exact nthL_append_lt l x i (by simpa using h)
theorem nthL_append_eq : ∀ (l : List (List Bool)) (x : List Bool), nthL (l ++ [x]) l.length = x
  | [], _ => rfl
  | y :: l, x => by simp [nthL]; exact nthL_append_eq l x
theorem nthL_ge : ∀ (l : List (List Bool)) (i : Nat), l.length ≤ i → nthL l i = []
  | [], _, _ => rfl
  | y :: l, 0, h => by simp at h
  | y :: l, i + 1, h => by simp [nthL]; exact nthL_ge l i (by simpa using h)

/-- A set of operations that are done, each with all that comes before it. -/
def Closed (ops : List Oper) (D : Nat → Bool) : Prop := ∀ i o, ops[i]? = some o → D i = true → ∀ p ∈ predL o.after.toList, D p = true

theorem unionP_spec {D : Nat → Bool} {acc : List (List Bool)} : ∀ {ps : List Nat}, (∀ p ∈ ps, D p = true) → (∀ p ∈ ps, ∀ i, nthb (nthL acc p) i = true → D i = true) → ∀ i, nthb (unionP acc ps) i = true → D i = true
  | [], _, _, i, h => by simp [unionP, nthb] at h
  | p :: ps, h1, h2, i, h => by
    simp only [unionP, nthb_orL, Bool.or_eq_true, nthb_oneL] at h
    rcases h with (rfl | h) | h
    · exact h1 _ (by simp)
    · exact h2 p (by simp) i h
    · exact unionP_spec (fun q hq => h1 q (by simp [hq])) (fun q hq => h2 q (by simp [hq])) i h

theorem befs_spec {ops : List Oper} {D : Nat → Bool} (hD : Closed ops D) : ∀ (l : List Oper) (acc : List (List Bool)), (∃ pre, ops = pre ++ l ∧ acc.length = pre.length) →
    (∀ j o, ops[j]? = some o → j < acc.length → (∀ p ∈ predL o.after.toList, D p = true) → ∀ i, nthb (nthL acc j) i = true → D i = true) →
    ∀ j o, ops[j]? = some o → (∀ p ∈ predL o.after.toList, D p = true) → ∀ i, nthb (nthL (befs l acc) j) i = true → D i = true
  | [], acc, ⟨pre, hp, hl⟩, hacc, j, o, ho, hpr, i, h => by
    have : j < acc.length := by
      rw [hl]
      have := (List.getElem?_eq_some_iff.1 ho).1
      rw [hp] at this; simpa using this
    exact hacc j o ho this hpr i h
  | x :: l, acc, ⟨pre, hp, hl⟩, hacc, j, o, ho, hpr, i, h => by
    refine befs_spec hD l (acc ++ [unionP acc (predL x.after.toList)]) ⟨pre ++ [x], by simp [hp], by simp [hl]⟩ ?_ j o ho hpr i h
    intro j' o' ho' hj' hpr' i' h'
    rcases Nat.lt_or_ge j' acc.length with hlt | hge
    · rw [nthL_append_lt _ _ _ hlt] at h'
      exact hacc j' o' ho' hlt hpr' i' h'
    · have hj : j' = acc.length := by simp at hj'; omega
      subst hj
      rw [nthL_append_eq] at h'
      have hx : o' = x := by
        rw [hp, hl, List.getElem?_append_right (Nat.le_refl _)] at ho'
        simpa using ho'.symm
      subst hx
      refine unionP_spec hpr' (fun p hpm i2 h2 => ?_) i' h'
      rcases Nat.lt_or_ge p acc.length with hp1 | hp1
      · have hpl : p < ops.length := by rw [hp]; simp; omega
        have hDp := hpr' p hpm
        exact hacc p ops[p] (List.getElem?_eq_getElem hpl) hp1 (hD p _ (List.getElem?_eq_getElem hpl) hDp) i2 h2
      · rw [nthL_ge _ _ hp1] at h2; simp [nthb] at h2

theorem chk1_spec {y : Tr} {b : List Bool} : ∀ {l : List Tr} {k : Nat}, chk1 y b k l = true → ∀ i x, l[i]? = some x → conf x y = true → nthb b (k + i) = true
  | [], _, _, i, x, h, _ => by simp at h
  | z :: l, k, h, 0, x, hx, hc => by
    simp only [chk1, Bool.and_eq_true, Bool.or_eq_true] at h
    simp at hx
    subst hx
    rcases h.1 with h1 | h1
    · rw [hc] at h1; simp at h1
    · exact h1
  | z :: l, k, h, i + 1, x, hx, hc => by
    simp only [chk1, Bool.and_eq_true] at h
    have := chk1_spec h.2 i x (by simpa using hx) hc
    rw [show k + (i + 1) = k + 1 + i by omega]; exact this

theorem chk_spec {bs : List (List Bool)} : ∀ {l done : List Tr} {j : Nat}, done.length = j → chk bs done j l = true → ∀ (i m : Nat) (x y : Tr), (done ++ l)[i]? = some x → l[m]? = some y → i < j + m → conf x y = true → nthb (nthL bs (j + m)) i = true
  | [], _, _, _, _, i, m, x, y, _, h, _, _ => by simp at h
  | z :: l, done, j, hd, h, i, 0, x, y, hx, hy, hlt, hc => by
    simp only [chk, Bool.and_eq_true] at h
    simp at hy
    subst hy
    have hx' : done[i]? = some x := by rw [List.getElem?_append_left (by omega)] at hx; exact hx
    have := chk1_spec h.1 i x hx' hc
    simpa using this
  | z :: l, done, j, hd, h, i, m + 1, x, y, hx, hy, hlt, hc => by
    simp only [chk, Bool.and_eq_true] at h
    have := chk_spec (l := l) (done := done ++ [z]) (j := j + 1) (by simp [hd]) h.2 i m x y (by simpa using hx) (by simpa using hy) (by omega) hc
    rw [show j + (m + 1) = j + 1 + m by omega]; exact this

theorem allLt_iff {j : Nat} : ∀ {l : List Nat}, allLt j l = true ↔ ∀ p ∈ l, p < j
  | [] => by simp [allLt]
  | p :: l => by
    simp only [allLt, Bool.and_eq_true, leN_eq, allLt_iff (l := l), List.forall_mem_cons]
    exact Iff.rfl
theorem edgesOk_spec : ∀ {l : List Oper} {k : Nat}, edgesOk k l = true → ∀ i o, l[i]? = some o → ∀ p ∈ predL o.after.toList, p < k + i
  | [], _, _, i, o, h => by simp at h
  | x :: l, k, h, 0, o, ho => by
    simp only [edgesOk, Bool.and_eq_true, allLt_iff] at h
    simp only [List.getElem?_cons_zero, Option.some.injEq] at ho
    subst ho
    exact h.1
  | x :: l, k, h, i + 1, o, ho => by
    simp only [edgesOk, Bool.and_eq_true] at h
    have h3 := edgesOk_spec h.2 i o (by simpa using ho)
    intro p hp
    have h4 := h3 p hp
    omega

theorem predL_mem : ∀ {l : List Edge} {p : Nat}, p ∈ predL l ↔ ∃ e ∈ l, Region.binds .any e = true ∧ e.on = p
  | [], p => by simp [predL]
  | e :: l, p => by
    have ih := predL_mem (l := l) (p := p)
    unfold predL
    cases hg : e.ground
    case textOnly r =>
      simp only [ih]
      constructor
      · rintro ⟨e', h1, h2⟩; exact ⟨e', List.mem_cons_of_mem _ h1, h2⟩
      · rintro ⟨e', h1, h2, h3⟩
        rcases List.mem_cons.1 h1 with rfl | h1
        · simp [Region.binds, hg] at h2
        · exact ⟨e', h1, h2, h3⟩
    case gcOnly r =>
      simp only [ih]
      constructor
      · rintro ⟨e', h1, h2⟩; exact ⟨e', List.mem_cons_of_mem _ h1, h2⟩
      · rintro ⟨e', h1, h2, h3⟩
        rcases List.mem_cons.1 h1 with rfl | h1
        · simp [Region.binds, hg] at h2
        · exact ⟨e', h1, h2, h3⟩
    all_goals
      simp only [List.mem_cons, ih]
      constructor
      · rintro (rfl | ⟨e', h1, h2⟩)
        · exact ⟨e, .inl rfl, by simp [Region.binds, hg], rfl⟩
        · exact ⟨e', .inr h1, h2⟩
      · rintro ⟨e', h1 | h1, h2, h3⟩
        · subst h1; exact .inl h3.symm
        · exact .inr ⟨e', h1, h2, h3⟩
end Go.Proofs.SX

namespace Go.Proofs.SX
open Go Go.RowKit
set_option linter.unusedVariables false
set_option linter.unusedSimpArgs false

abbrev S2 := (Nat → AV) × (Nat → Blk)
def app (L : Nat) (t : Tr) (s : S2) : S2 := (updF L s.1 t.dst t.q.v, putH s.2 t.n t.q.e)
/-- The steps of a set, in the order of the text. -/
def foldT (L : Nat) : List Tr → Nat → (Nat → Bool) → S2 → S2
  | [], _, _, s => s
  | t :: ts, k, D, s => foldT L ts (k + 1) D (bif D k then app L t s else s)

theorem putH_far {hp : Nat → Blk} {n : Nat} {e : Eff} {m : Nat} (h : m ∉ touched e n) : putH hp n e m = hp m := by
  cases e <;> simp [touched] at h <;> simp [putH, h, mem_iff]
theorem putH_near {hp hp' : Nat → Blk} {n : Nat} {e : Eff} {m : Nat} (h : m ∈ touched e n) : putH hp n e m = putH hp' n e m := by
  cases e with
  | none => simp [touched] at h
  | new b => simp [touched] at h; simp [putH, h]
  | wr nm b => simp [touched] at h; simp [putH, h]
  | kill l => simp [touched] at h; simp [putH, h, mem_iff]
  | mv nm b =>
    simp [touched] at h
    simp only [putH]
    by_cases h1 : m = n
    · simp [h1]
    · rcases h with h | h
      · simp [h1, h]
      · exact absurd h h1
theorem updF_far {L : Nat} {fr : Nat → AV} {dst : Option Nat} {v : AV} {t : Nat} (h : dst ≠ some t) : updF L fr dst v t = fr t := by
  cases dst with
  | none => rfl
  | some d => rw [updF_some, if_neg (fun hh => h (by rw [hh.1]))]

theorem agreeF {L : Nat} {t : Nat} : ∀ {T : List Tr} {k : Nat} {D D' : Nat → Bool} {s s' : S2}, s.1 t = s'.1 t → (∀ j x, T[j]? = some x → D (k + j) ≠ D' (k + j) → x.dst ≠ some t) → (foldT L T k D s).1 t = (foldT L T k D' s').1 t
  | [], _, _, _, _, _, h, _ => h
  | x :: T, k, D, D', s, s', h, hd => by
    simp only [foldT]
    refine agreeF ?_ (fun j y hy hne => hd (j + 1) y (by simpa using hy) (by rw [show k + (j + 1) = k + 1 + j by omega]; exact hne))
    have h0 := hd 0 x rfl
    rw [Nat.add_zero] at h0
    cases h1 : D k <;> cases h2 : D' k <;> simp only [cond_true, cond_false]
    · exact h
    · rw [h1, h2] at h0
      show s.1 t = updF L s'.1 x.dst x.q.v t
      rw [updF_far (h0 (by simp))]; exact h
    · rw [h1, h2] at h0
      show updF L s.1 x.dst x.q.v t = s'.1 t
      rw [updF_far (h0 (by simp))]; exact h
    · show updF L s.1 x.dst x.q.v t = updF L s'.1 x.dst x.q.v t
      cases x.dst with
      | none => exact h
      | some d =>
        rw [updF_some, updF_some]
        split
        · rfl
        · exact h

theorem agreeH {L : Nat} {m : Nat} : ∀ {T : List Tr} {k : Nat} {D D' : Nat → Bool} {s s' : S2}, s.2 m = s'.2 m → (∀ j x, T[j]? = some x → D (k + j) ≠ D' (k + j) → m ∉ touched x.q.e x.n) → (foldT L T k D s).2 m = (foldT L T k D' s').2 m
  | [], _, _, _, _, _, h, _ => h
  | x :: T, k, D, D', s, s', h, hd => by
    simp only [foldT]
    refine agreeH ?_ (fun j y hy hne => hd (j + 1) y (by simpa using hy) (by rw [show k + (j + 1) = k + 1 + j by omega]; exact hne))
    have h0 := hd 0 x rfl
    rw [Nat.add_zero] at h0
    cases h1 : D k <;> cases h2 : D' k <;> simp only [cond_true, cond_false]
    · exact h
    · rw [h1, h2] at h0
      show s.2 m = putH s'.2 x.n x.q.e m
      rw [putH_far (h0 (by simp))]; exact h
    · rw [h1, h2] at h0
      show putH s.2 x.n x.q.e m = s'.2 m
      rw [putH_far (h0 (by simp))]; exact h
    · show putH s.2 x.n x.q.e m = putH s'.2 x.n x.q.e m
      by_cases hm : m ∈ touched x.q.e x.n
      · exact putH_near hm
      · rw [putH_far hm, putH_far hm]; exact h

def lt (i : Nat) : Nat → Bool := fun j => leN (j + 1) i
theorem lt_iff {i j : Nat} : lt i j = true ↔ j < i := by unfold lt; rw [leN_eq]; exact Iff.rfl

theorem fold_none {L : Nat} : ∀ (T : List Tr) (k i : Nat) (s : S2), i ≤ k → foldT L T k (lt i) s = s
  | [], _, _, _, _ => rfl
  | x :: T, k, i, s, h => by
    have : lt i k = false := by cases hh : lt i k; rfl; rw [lt_iff] at hh; omega
    simp only [foldT, this, cond_false]
    exact fold_none T (k + 1) i s (by omega)

theorem fold_succ {L : Nat} : ∀ (T : List Tr) (k i : Nat) (x : Tr) (s : S2), T[i]? = some x → foldT L T k (lt (k + i + 1)) s = app L x (foldT L T k (lt (k + i)) s)
  | [], _, _, _, _, h => by simp at h
  | y :: T, k, 0, x, s, h => by
    simp at h
    subst h
    have h1 : lt (k + 0 + 1) k = true := lt_iff.2 (by omega)
    have h2 : lt (k + 0) k = false := by cases hh : lt (k + 0) k; rfl; rw [lt_iff] at hh; omega
    simp only [foldT, h1, h2, cond_true, cond_false]
    rw [fold_none _ _ _ _ (by omega), fold_none _ _ _ _ (by omega)]
  | y :: T, k, i + 1, x, s, h => by
    have h1 : lt (k + (i + 1) + 1) k = true := lt_iff.2 (by omega)
    have h2 : lt (k + (i + 1)) k = true := lt_iff.2 (by omega)
    simp only [foldT, h1, h2, cond_true]
    have := fold_succ (L := L) T (k + 1) i x (app L y s) (by simpa using h)
    rw [show k + 1 + i = k + (i + 1) by omega] at this
    exact this

theorem fold_shift {L : Nat} : ∀ (T : List Tr) (k i : Nat) (s : S2), foldT L T (k + 1) (lt (i + 1)) s = foldT L T k (lt i) s
  | [], _, _, _ => rfl
  | x :: T, k, i, s => by
    have : lt (i + 1) (k + 1) = lt i k := by
      cases h1 : lt i k with
      | true => rw [lt_iff] at h1; exact lt_iff.2 (by omega)
      | false =>
        cases h2 : lt (i + 1) (k + 1) with
        | false => rfl
        | true => rw [lt_iff] at h2; have : lt i k = true := lt_iff.2 (by omega); rw [this] at h1; simp at h1
    simp only [foldT, this]
    exact fold_shift T (k + 1) i _

/-! ### What the trace says -/
theorem xstep_live {c : Cx} {all : List Oper} {fr : Nat → AV} {get : Nat → Blk} {n : Nat} {ds ds' : List Bool} {o : Oper} {q : Out} (h : xstep c all fr get n ds o = some (q, ds')) : effLive get q.e := by
  unfold xstep at h
  split at h
  · simp only [Option.some.injEq, Prod.mk.injEq] at h
    obtain ⟨rfl, rfl⟩ := h
    trivial
  · split at h
    · split at h
      · simp only [Option.some.injEq, Prod.mk.injEq] at h
        obtain ⟨rfl, rfl⟩ := h
        trivial
      · simp at h
    · split at h
      · rename_i q' hq
        split at h
        · simp at h
        simp only [Option.some.injEq, Prod.mk.injEq] at h
        obtain ⟨rfl, rfl⟩ := h
        have := xop_live hq
        exact this
      · simp at h
  · simp at h

structure Told (c : Cx) (all : List Oper) (L : Nat) (l : List Oper) (ts : List Tr) (r r' : XR) : Prop where
  len : ts.length = l.length
  at_ : ∀ (i : Nat) (x : Tr) (o : Oper), ts[i]? = some x → l[i]? = some o → (∃ ds', xstep c all (foldT L ts 0 (lt i) (nth r.s.fr, nthB r.s.hp)).1 (foldT L ts 0 (lt i) (nth r.s.fr, nthB r.s.hp)).2 x.n x.ds o = some (x.q, ds')) ∧
    x.rd = rdOf all o ∧ x.nr = nrOf (foldT L ts 0 (lt i) (nth r.s.fr, nthB r.s.hp)).1 o ∧ x.dst = o.dst
  names : ∀ (i : Nat) (x : Tr), ts[i]? = some x → lenB r.s.hp ≤ x.n ∧ ∀ (j : Nat) (y : Tr), ts[j]? = some y → j < i → isNew y.q.e = true → y.n < x.n
  fin : (nth r'.s.fr, nthB r'.s.hp) = foldT L ts 0 (lt ts.length) (nth r.s.fr, nthB r.s.hp)
  lenfr : r'.s.fr.length = r.s.fr.length
  al : ∀ m, m < lenB r'.s.hp ↔ m < lenB r.s.hp ∨ ∃ (j : Nat) (y : Tr), ts[j]? = some y ∧ isNew y.q.e = true ∧ m = y.n
  ob : Obs r'.ob → Obs r.ob ∧ ∀ (i : Nat) (x : Tr), ts[i]? = some x → Obs x.q.ob

theorem trace_told {c : Cx} {all : List Oper} : ∀ {l : List Oper} {r r' : XR} {ts : List Tr}, xtrace c all l r = some (ts, r') → Told c all r.s.fr.length l ts r r'
  | [], r, r', ts, h => by
    simp only [xtrace, Option.some.injEq, Prod.mk.injEq] at h
    obtain ⟨rfl, rfl⟩ := h
    exact ⟨rfl, fun i x o h => by simp at h, fun i x h => by simp at h, rfl, rfl, fun m => by simp, fun h => ⟨h, fun i x h => by simp at h⟩⟩
  | o :: l, r, r', ts, h => by
    simp only [xtrace] at h
    split at h
    · rename_i q ds hq
      split at h
      · rename_i ts' r2 hr
        simp only [Option.some.injEq, Prod.mk.injEq] at h
        obtain ⟨rfl, rfl⟩ := h
        have ih := trace_told hr
        have hlive := xstep_live hq
        have hst : (nth (putF r.s.fr o.dst q.v), nthB (putE r.s.hp q.e)) = app r.s.fr.length ⟨q, lenB r.s.hp, rdOf all o, nrOf (nth r.s.fr) o, o.dst, r.ds⟩ (nth r.s.fr, nthB r.s.hp) := by
          simp only [app]
          rw [nth_putF, nthB_putE _ _ hlive]
        have hL : (putF r.s.fr o.dst q.v).length = r.s.fr.length := len_putF _ _ _
        have hfold : ∀ i, foldT r.s.fr.length (⟨q, lenB r.s.hp, rdOf all o, nrOf (nth r.s.fr) o, o.dst, r.ds⟩ :: ts') 0 (lt (i + 1)) (nth r.s.fr, nthB r.s.hp) =
            foldT r.s.fr.length ts' 0 (lt i) (nth (putF r.s.fr o.dst q.v), nthB (putE r.s.hp q.e)) := by
          intro i
          have h1 : lt (i + 1) 0 = true := lt_iff.2 (by omega)
          simp only [foldT, h1, cond_true]
          rw [← hst]
          exact fold_shift ts' 0 i _
        refine ⟨by simp [ih.len], ?_, ?_, ?_, by rw [ih.lenfr]; exact hL, ?_, ?_⟩
        · intro i x o' hx ho'
          cases i with
          | zero =>
            simp at hx ho'
            subst hx ho'
            rw [fold_none _ _ _ _ (by omega)]
            exact ⟨⟨ds, hq⟩, rfl, rfl, rfl⟩
          | succ i =>
            rw [hfold i]
            have := ih.at_ i x o' (by simpa using hx) (by simpa using ho')
            simp only at this
            rw [hL] at this
            exact this
        · intro i x hx
          cases i with
          | zero =>
            simp at hx
            subst hx
            exact ⟨Nat.le_refl _, fun j y _ hj => by omega⟩
          | succ i =>
            obtain ⟨h1, h2⟩ := ih.names i x (by simpa using hx)
            simp only [lenB_putE] at h1
            refine ⟨by omega, fun j y hy hj hn => ?_⟩
            cases j with
            | zero =>
              simp at hy
              subst hy
              simp only at hn ⊢
              rw [hn] at h1
              simp at h1; omega
            | succ j => exact h2 j y (by simpa using hy) (by omega) hn
        · have := ih.fin
          simp only at this
          rw [hL] at this
          rw [List.length_cons, hfold]
          exact this
        · intro m
          rw [ih.al m]
          simp only [lenB_putE]
          constructor
          · rintro (h1 | ⟨j, y, h1, h2, h3⟩)
            · by_cases hm : m < lenB r.s.hp
              · exact .inl hm
              · by_cases hn : isNew q.e = true
                · rw [hn] at h1
                  simp at h1
                  exact .inr ⟨0, _, rfl, hn, by simp; omega⟩
                · have : isNew q.e = false := by simpa using hn
                  rw [this] at h1; simp at h1; omega
            · exact .inr ⟨j + 1, y, by simpa using h1, h2, h3⟩
          · rintro (h1 | ⟨j, y, h1, h2, h3⟩)
            · exact .inl (by omega)
            · cases j with
              | zero =>
                simp at h1
                subst h1
                simp only at h2 h3
                rw [h2]
                exact .inl (by simp; omega)
              | succ j => exact .inr ⟨j, y, by simpa using h1, h2, h3⟩
        · intro hob
          obtain ⟨h1, h2⟩ := ih.ob hob
          obtain ⟨h3, h4⟩ := obs_append h1
          refine ⟨h4, fun i x hx => ?_⟩
          cases i with
          | zero => simp at hx; subst hx; exact h3
          | succ i => exact h2 i x (by simpa using hx)
      · simp at h
    · simp at h

/-! ### Every order -/
def cnt : List Bool → Nat
  | [] => 0
  | b :: l => (if b then 0 else 1) + cnt l
theorem cnt_set : ∀ {l : List Bool} {i : Nat}, l[i]? = some false → cnt (l.set i true) + 1 = cnt l
  | [], _, h => by simp at h
  | b :: l, 0, h => by simp at h; subst h; simp [cnt]; omega
  | b :: l, i + 1, h => by
    have := cnt_set (l := l) (i := i) (by simpa using h)
    simp only [List.set_cons_succ, cnt]; omega
theorem cnt_zero : ∀ {l : List Bool} {i : Nat}, cnt l = 0 → i < l.length → l[i]? = some true
  | [], _, _, h => by simp at h
  | b :: l, 0, h, _ => by cases b <;> simp [cnt] at h ⊢
  | b :: l, i + 1, h, hi => by
    have : cnt l = 0 := by simp only [cnt] at h; omega
    simpa using cnt_zero this (by simpa using hi)
theorem cnt_rep : ∀ n, cnt (List.replicate n false) = n
  | 0 => rfl
  | n + 1 => by simp [List.replicate_succ, cnt, cnt_rep n]; omega

/-- A state between the text's: the list's own. -/
structure ConcL (O : Nat → Prop) (B : Bd) (w0 : World) (s : St) (R : RC) (a : Act) : Prop where
  c : Conc O B w0 s.fr.length R (nth s.fr) (nthB s.hp) a
  al : ∀ m, R.al m ↔ m < lenB s.hp
  hB : NewOk B R.w

section
variable {P : Program} {O : Nat → Prop} {B : Bd} {w0 : World} {c : Cx}

/-- Some steps are done. -/
structure Part (O : Nat → Prop) (B : Bd) (w0 : World) (R00 : RC) (ops : Array Oper) (L : Nat) (ts : List Tr) (r : XR) (listed : Array Bool) (a : Act) (w : World) : Prop where
  R : ∃ R : RC, R.w = w ∧ Rel R00 R ∧ Conc O B w0 L R (foldT L ts 0 (fun j => listed.getD j false) (nth r.s.fr, nthB r.s.hp)).1 (foldT L ts 0 (fun j => listed.getD j false) (nth r.s.fr, nthB r.s.hp)).2 a ∧
    (∀ m, R.al m ↔ m < lenB r.s.hp ∨ ∃ (j : Nat) (y : Tr), ts[j]? = some y ∧ listed.getD j false = true ∧ isNew y.q.e = true ∧ m = y.n)
  hB : NewOk B w
  cl : Closed ops.toList (fun j => listed.getD j false)
  sz : listed.size = ops.size

theorem ready_iff {ops : Array Oper} {listed : Array Bool} {i : Nat} : i ∈ Region.ready .any ops listed ↔ ∃ o, ops[i]? = some o ∧ listed.getD i true = false ∧ ∀ p ∈ predL o.after.toList, listed.getD p false = true := by
  unfold Region.ready
  rw [List.mem_filter, List.mem_range]
  constructor
  · rintro ⟨hi, h⟩
    rw [Array.getElem?_eq_getElem hi] at h
    simp only [Bool.and_eq_true, Bool.not_eq_true', Option.map_some, Option.getD_some, Array.all_eq_true'] at h
    refine ⟨ops[i], Array.getElem?_eq_getElem hi, h.1, fun p hp => ?_⟩
    obtain ⟨e, he, hb, rfl⟩ := predL_mem.1 hp
    have := h.2 e (by simpa using he)
    simpa [hb] using this
  · rintro ⟨o, ho, h1, h2⟩
    obtain ⟨hi, he⟩ := Array.getElem?_eq_some_iff.1 ho
    refine ⟨hi, ?_⟩
    rw [ho]
    simp only [Bool.and_eq_true, Bool.not_eq_true', Option.map_some, Option.getD_some, Array.all_eq_true']
    refine ⟨h1, fun e he => ?_⟩
    cases hb : Region.binds .any e with
    | false => simp
    | true => simp [h2 e.on (predL_mem.2 ⟨e, by simpa using he, hb, rfl⟩)]

theorem getD_flag {l : Array Bool} {i : Nat} (hi : i < l.size) (b b' : Bool) : l.getD i b = l.getD i b' := by simp [Array.getD, hi]

theorem any_sound (hna : B.na = c.na) (hA : c.A = stdAr) (hTy : ∀ t, TyOk P t (c.T t)) (hG : GOk P c.G) {ops : Array Oper} {r r' : XR} {ts : List Tr} {L : Nat} (hL : r.s.fr.length = L) (ht : Told c ops.toList L ops.toList ts r r') (hob : Obs r'.ob) (hord : orderOk ops.toList ts = true)
    {Q : Exit → Act → World → Prop} {R00 : RC} {rd : Option Nat} {nn : Nat} (hQ : ∀ a' R', ConcL O B w0 r'.s R' a' → Rel R00 R' → Q .normal a' R'.w) :
    ∀ (fuel : Nat) (listed : Array Bool) (a : Act) (w : World), Part O B w0 R00 ops L ts r listed a w → cnt listed.toList ≤ fuel → wpAnyIn (rF rd) nn P .any ops Q fuel listed a w := by
  unfold orderOk at hord
  rw [Bool.and_eq_true] at hord
  obtain ⟨hedge, hchk⟩ := hord
  have htl : ts.length = ops.size := by rw [ht.len]; simp
  have tget : ∀ {i : Nat} {o : Oper}, ops[i]? = some o → ∃ x, ts[i]? = some x := by
    intro i o ho
    have hi : i < ts.length := by rw [htl]; exact (Array.getElem?_eq_some_iff.1 ho).1
    exact ⟨ts[i], List.getElem?_eq_getElem hi⟩
  have toL : ∀ {i : Nat} {o : Oper}, ops[i]? = some o → ops.toList[i]? = some o := fun h => by rw [Array.getElem?_toList]; exact h
  -- all are done
  have fin : ∀ {listed : Array Bool} {a : Act} {w : World}, Part O B w0 R00 ops L ts r listed a w → (∀ i, i < ops.size → listed.getD i false = true) → Q .normal a w := by
    intro listed a w hp hall
    obtain ⟨R, rfl, hrel, hc, hal⟩ := hp.R
    have heq : foldT L ts 0 (fun j => listed.getD j false) (nth r.s.fr, nthB r.s.hp) = (nth r'.s.fr, nthB r'.s.hp) := by
      rw [ht.fin]
      have flag : ∀ j x, ts[j]? = some x → (fun j => listed.getD j false) (0 + j) = lt ts.length (0 + j) := by
        intro j x hj
        have hlt := (List.getElem?_eq_some_iff.1 hj).1
        simp only [Nat.zero_add]
        rw [hall j (by omega), lt_iff.2 hlt]
      exact Prod.ext (funext fun t => agreeF rfl (fun j x hj hne => absurd (flag j x hj) hne)) (funext fun m => agreeH rfl (fun j x hj hne => absurd (flag j x hj) hne))
    rw [heq] at hc
    refine hQ a R ⟨by rw [ht.lenfr, hL]; exact hc, fun m => ?_, hp.hB⟩ hrel
    rw [hal m, ht.al m]
    constructor
    · rintro (h | ⟨j, y, h1, h2, h3, h4⟩)
      · exact .inl h
      · exact .inr ⟨j, y, h1, h3, h4⟩
    · rintro (h | ⟨j, y, h1, h3, h4⟩)
      · exact .inl h
      · exact .inr ⟨j, y, h1, hall j (by have := (List.getElem?_eq_some_iff.1 h1).1; omega), h3, h4⟩
  -- nobody is ready: all are done
  have none_ready : ∀ {listed : Array Bool} {a : Act} {w : World}, Part O B w0 R00 ops L ts r listed a w → Region.ready .any ops listed = [] → Q .normal a w := by
    intro listed a w hp hr
    refine fin hp ?_
    intro i
    induction i using Nat.strongRecOn with
    | _ i ih =>
      intro hi
      cases hl : listed.getD i false with
      | true => rfl
      | false =>
        exfalso
        have hsz : i < listed.size := by rw [hp.sz]; exact hi
        have ho : ops[i]? = some ops[i] := Array.getElem?_eq_getElem hi
        have : i ∈ Region.ready .any ops listed := ready_iff.2 ⟨ops[i], ho, by rw [getD_flag hsz true false]; exact hl, fun p hpm => by
          have hlt := edgesOk_spec hedge i ops[i] (toL ho) p hpm
          exact ih p (by omega) (by omega)⟩
        rw [hr] at this
        simp at this
  -- a step
  have step : ∀ {listed : Array Bool} {a : Act} {w : World} {i : Nat}, Part O B w0 R00 ops L ts r listed a w → i ∈ Region.ready .any ops listed →
      ∀ {K : Act → World → Prop}, (∀ a' w', Part O B w0 R00 ops L ts r (listed.setIfInBounds i true) a' w' → K a' w') → wpOpIn (rF rd) nn P ops Q i K a w := by
    intro listed a w i hp hi K hK
    obtain ⟨o, ho, hnl, hpred⟩ := ready_iff.1 hi
    obtain ⟨x, hx⟩ := tget ho
    obtain ⟨R, rfl, hrel, hc, hal⟩ := hp.R
    have hisz : i < ops.size := (Array.getElem?_eq_some_iff.1 ho).1
    have hils : i < listed.size := by rw [hp.sz]; exact hisz
    have hnl' : listed.getD i false = false := by rw [getD_flag hils false true]; exact hnl
    -- what differs from the text's state before i may change places with i
    have free : ∀ {j : Nat} {y : Tr}, ts[j]? = some y → j ≠ i → listed.getD j false ≠ lt i j → Free y x := by
      intro j y hy hji hne
      have hjs : j < ops.size := by have := (List.getElem?_eq_some_iff.1 hy).1; omega
      by_cases hlt : j < i
      · rw [lt_iff.2 hlt] at hne
        have hjl : listed.getD j false = false := by simpa using hne
        refine free_of ?_
        cases hcf : conf y x with
        | false => rfl
        | true =>
          exfalso
          have h1 := chk_spec (done := []) rfl hchk j i y x (by simpa using hy) hx (by omega) hcf
          rw [List.length_nil, Nat.zero_add] at h1
          have h2 := befs_spec hp.cl ops.toList [] ⟨[], by simp, rfl⟩ (fun j o _ h => by simp at h) i o (toL ho) (fun p hpm => hpred p hpm) j h1
          rw [hjl] at h2; simp at h2
      · have hlt' : i < j := by omega
        have hf : lt i j = false := by cases hh : lt i j; rfl; rw [lt_iff] at hh; omega
        rw [hf] at hne
        have hjl : listed.getD j false = true := by simpa using hne
        refine Free.symm (free_of ?_)
        cases hcf : conf x y with
        | false => rfl
        | true =>
          exfalso
          have h1 := chk_spec (done := []) rfl hchk i j x y (by simpa using hx) hy (by omega) hcf
          rw [List.length_nil, Nat.zero_add] at h1
          have hoj : ops[j]? = some ops[j] := Array.getElem?_eq_getElem hjs
          have h2 := befs_spec hp.cl ops.toList [] ⟨[], by simp, rfl⟩ (fun j o _ h => by simp at h) j ops[j] (toL hoj) (hp.cl j ops[j] (toL hoj) hjl) i h1
          rw [hnl'] at h2; simp at h2
    obtain ⟨⟨ds', hxs⟩, hrd, hnr, hdst⟩ := ht.at_ i x o hx (toL ho)
    -- the two states agree on what the operation looks at
    have hself : listed.getD i false = lt i i := by
      rw [hnl']; cases hh : lt i i; rfl; rw [lt_iff] at hh; omega
    have flag : ∀ {j : Nat} {y : Tr}, ts[j]? = some y → (fun j => listed.getD j false) (0 + j) ≠ lt i (0 + j) → Free y x := by
      intro j y hy hne
      rw [Nat.zero_add] at hne
      refine free hy (fun e => ?_) hne
      subst e; exact hne hself
    have hag := xstep_agree (c := c) (all := ops.toList) (n := x.n) (ds := x.ds) (o := o) (fr := (foldT L ts 0 (lt i) (nth r.s.fr, nthB r.s.hp)).1) (get := (foldT L ts 0 (lt i) (nth r.s.fr, nthB r.s.hp)).2)
      (fr' := (foldT L ts 0 (fun j => listed.getD j false) (nth r.s.fr, nthB r.s.hp)).1) (get' := (foldT L ts 0 (fun j => listed.getD j false) (nth r.s.fr, nthB r.s.hp)).2)
      (fun t htm => agreeF rfl (fun j y hy hne he => (flag hy hne).rd1 t he (by rw [hrd]; exact htm)))
      (fun m hm => agreeH rfl (fun j y hy hne he => (flag hy hne).nr1 m he (by rw [hnr]; exact hm)))
    rw [hxs] at hag
    have hnal : isNew x.q.e = true → ¬ R.al x.n := by
      intro hnw
      rw [hal]
      rintro (h | ⟨j, y, h1, h2, h3, h4⟩)
      · have := (ht.names i x hx).1; omega
      · rcases Nat.lt_trichotomy j i with hlt | heq | hgt
        · have := (ht.names i x hx).2 j y h1 hlt h3; omega
        · subst heq; rw [hnl'] at h2; simp at h2
        · have := (ht.names j y h1).2 i x hx hgt hnw; omega
    have hset : ∀ j, (listed.setIfInBounds i true).getD j false = if j = i then true else listed.getD j false := by
      intro j
      by_cases hji : j = i
      · subst hji
        rw [if_pos rfl]
        simp [Array.getD, hils]
      · rw [if_neg hji, getD_set_ne false (fun e => hji e.symm)]
    have hnext : foldT L ts 0 (fun j => (listed.setIfInBounds i true).getD j false) (nth r.s.fr, nthB r.s.hp) =
        (updF L (foldT L ts 0 (fun j => listed.getD j false) (nth r.s.fr, nthB r.s.hp)).1 o.dst x.q.v, putH (foldT L ts 0 (fun j => listed.getD j false) (nth r.s.fr, nthB r.s.hp)).2 x.n x.q.e) := by
      have hsucc := fold_succ (L := L) ts 0 i x (nth r.s.fr, nthB r.s.hp) hx
      rw [Nat.zero_add] at hsucc
      have flag2 : ∀ {j : Nat} {y : Tr}, ts[j]? = some y → (fun j => (listed.setIfInBounds i true).getD j false) (0 + j) ≠ lt (i + 1) (0 + j) → Free y x := by
        intro j y hy hne
        rw [Nat.zero_add] at hne
        simp only [hset] at hne
        have hji : j ≠ i := by
          intro e; subst e
          rw [if_pos rfl, lt_iff.2 (Nat.lt_succ_self _)] at hne
          exact hne rfl
        rw [if_neg hji] at hne
        refine free hy hji (fun e => hne ?_)
        rw [e]
        cases h1 : lt i j with
        | true => rw [lt_iff] at h1; exact (lt_iff.2 (by omega)).symm
        | false =>
          cases h2 : lt (i + 1) j with
          | false => rfl
          | true =>
            rw [lt_iff] at h2
            have : lt i j = true := lt_iff.2 (by omega)
            rw [this] at h1; simp at h1
      have flag3 : ∀ {j : Nat} {y : Tr}, ts[j]? = some y → (fun j => (listed.setIfInBounds i true).getD j false) (0 + j) ≠ (fun j => listed.getD j false) (0 + j) → y = x := by
        intro j y hy hne
        rw [Nat.zero_add] at hne
        simp only [hset] at hne
        have hji : j = i := by
          by_cases e : j = i
          · exact e
          · rw [if_neg e] at hne; exact absurd rfl hne
        subst hji
        rw [hx] at hy
        exact (Option.some.inj hy).symm
      have big : ∀ {T : List Tr} {k : Nat} {D : Nat → Bool} {s : S2} {t : Nat}, L ≤ t → (foldT L T k D s).1 t = s.1 t := by
        intro T
        induction T with
        | nil => intros; rfl
        | cons y T ih =>
          intro k D s t ht
          simp only [foldT]
          rw [ih ht]
          cases D k
          · rfl
          · show updF L s.1 y.dst y.q.v t = s.1 t
            cases y.dst with
            | none => rfl
            | some d => rw [updF_some, if_neg (by omega)]
      refine Prod.ext (funext fun t => ?_) (funext fun m => ?_)
      · simp only
        by_cases htl2 : t < L
        · by_cases hd : x.dst = some t
          · rw [agreeF (D' := lt (i + 1)) (s' := (nth r.s.fr, nthB r.s.hp)) rfl (fun j y hy hne he => (flag2 hy hne).dd t he hd), hsucc]
            show updF L _ x.dst x.q.v t = _
            rw [← hdst, hd, updF_some, updF_some, if_pos ⟨rfl, htl2⟩, if_pos ⟨rfl, htl2⟩]
          · rw [agreeF (D' := fun j => listed.getD j false) (s' := (nth r.s.fr, nthB r.s.hp)) rfl (fun j y hy hne he => hd (by rw [← flag3 hy hne]; exact he)), ← hdst, updF_far hd]
        · rw [big (by omega)]
          cases hd : o.dst with
          | none =>
            show _ = (foldT L ts 0 _ _).1 t
            rw [big (by omega)]
          | some d => rw [updF_some, if_neg (by omega), big (by omega)]
      · simp only
        by_cases hm : m ∈ touched x.q.e x.n
        · rw [agreeH (D' := lt (i + 1)) (s' := (nth r.s.fr, nthB r.s.hp)) rfl (fun j y hy hne he => (flag2 hy hne).tt m he hm), hsucc]
          exact putH_near hm
        · rw [agreeH (D' := fun j => listed.getD j false) (s' := (nth r.s.fr, nthB r.s.hp)) rfl (fun j y hy hne he => hm (by rw [← flag3 hy hne]; exact he)), putH_far hm]
    refine (step_sound hA hTy hG hc hna hp.hB hnal ho hag ((ht.ob hob).2 i x hx) (fun a' R' hc' hal' hsz' => hK a' R'.w ⟨⟨R', rfl, hrel.trans hsz', ?_, fun m => ?_⟩, hp.hB.mono hsz'.oth.size, ?_, by simp [hp.sz]⟩)).1
    · rw [hnext]; exact hc'
    · rw [hal' m, hal m]
      constructor
      · rintro ((h | ⟨j, y, h1, h2, h3, h4⟩) | ⟨h1, h2⟩)
        · exact .inl h
        · exact .inr ⟨j, y, h1, by rw [hset]; split <;> simp [h2], h3, h4⟩
        · exact .inr ⟨i, x, hx, by rw [hset, if_pos rfl], h1, h2⟩
      · rintro (h | ⟨j, y, h1, h2, h3, h4⟩)
        · exact .inl (.inl h)
        · rw [hset] at h2
          by_cases hji : j = i
          · subst hji
            rw [hx] at h1
            obtain rfl := Option.some.inj h1
            exact .inr ⟨h3, h4⟩
          · rw [if_neg hji] at h2
            exact .inl (.inr ⟨j, y, h1, h2, h3, h4⟩)
    · intro j o' ho' hj p hpm
      simp only [hset] at hj ⊢
      by_cases hji : j = i
      · subst hji
        rw [toL ho] at ho'
        obtain rfl := Option.some.inj ho'
        by_cases hpj : p = j
        · rw [if_pos hpj]
        · rw [if_neg hpj]; exact hpred p hpm
      · rw [if_neg hji] at hj
        have := hp.cl j o' ho' hj p hpm
        split
        · rfl
        · exact this
  intro fuel
  induction fuel with
  | zero =>
    intro listed a w hp hcn
    have hall : ∀ i, i < ops.size → listed.getD i false = true := by
      intro i hi
      have hsz : i < listed.size := by rw [hp.sz]; exact hi
      have := cnt_zero (l := listed.toList) (i := i) (by omega) (by simpa using hsz)
      have h2 : listed[i]? = some true := by rw [← Array.getElem?_toList]; exact this
      simp [Array.getD_eq_getD_getElem?, h2]
    refine ⟨?_, fin hp hall⟩
    cases hr : Region.ready .any ops listed with
    | nil => rfl
    | cons i l =>
      exfalso
      have : i ∈ Region.ready .any ops listed := by rw [hr]; simp
      obtain ⟨o, ho, hnl, _⟩ := ready_iff.1 this
      have hi := (Array.getElem?_eq_some_iff.1 ho).1
      have hsz : i < listed.size := by rw [hp.sz]; exact hi
      rw [getD_flag hsz true false, hall i hi] at hnl
      simp at hnl
  | succ fuel ih =>
    intro listed a w hp hcn
    refine ⟨none_ready hp, fun i hi => step hp hi fun a' w' hp' => ih _ _ _ hp' ?_⟩
    obtain ⟨o, ho, hnl, _⟩ := ready_iff.1 hi
    have hil := (Array.getElem?_eq_some_iff.1 ho).1
    have hsz : i < listed.size := by rw [hp.sz]; exact hil
    have hget : listed.toList[i]? = some false := by
      rw [Array.getElem?_toList, Array.getElem?_eq_getElem hsz]
      simpa [Array.getD, hsz] using hnl
    have := cnt_set hget
    simp only [Array.toList_setIfInBounds]
    omega
end
end Go.Proofs.SX

namespace Go.Proofs.SX
open Go Go.RowKit
set_option linter.unusedVariables false
set_option linter.unusedSimpArgs false

/-- A loop, round by round. -/
def xloop (f : XR → Option (XE × XR)) : Nat → XR → Option (XE × XR)
  | 0, _ => none
  | n + 1, r => match f r with
    | some (.normal, r) => xloop f n r
    | e => e

def xcode (c : Cx) : Nat → Code → XR → Option (XE × XR)
  | 0, _, _ => none
  | n + 1, code, r => match code with
    | .skip => some (.normal, r)
    | .ret => some (.ret, r)
    | .exit id => some (.exit id, r)
    | .region _ ops false => match xops c ops.toList ops.toList r with
      | some r => some (.normal, r)
      | none => none
    | .region _ ops true => match xtrace c ops.toList ops.toList r with
      | some (ts, r) => match orderOk ops.toList ts with
        | true => some (.normal, r)
        | false => none
      | none => none
    | .seq a b => match xcode c n a r with
      | some (.normal, r) => xcode c n b r
      | e => e
    | .cond x a b => match ask r.ds (evF (nth r.s.fr) x) with
      | some (t, ds, ob) => xcode c n (bif t then a else b) ⟨r.s, ds, ob ++ r.ob⟩
      | none => none
    | .block id b => match xcode c n b r with
      | some (.exit id', r) => if eqN id id' then some (.normal, r) else some (.exit id', r)
      | e => e
    | .loop b => xloop (xcode c n b) n r
    | _ => none

def exOf : XE → Exit
  | .normal => .normal
  | .exit id => .exit id
  | .ret => .ret

section
variable {P : Program} {O : Nat → Prop} {B : Bd} {w0 : World} {c : Cx}

theorem fold_false {L : Nat} {D : Nat → Bool} (hD : ∀ j, D j = false) : ∀ (T : List Tr) (k : Nat) (s : S2), foldT L T k D s = s
  | [], _, _ => rfl
  | x :: T, k, s => by
    simp only [foldT, hD]
    exact fold_false hD T (k + 1) s

theorem xops_ob : ∀ {all l : List Oper} {r r' : XR}, xops c all l r = some r' → Obs r'.ob → Obs r.ob
  | _, [], r, r', h, ho => by simp only [xops, Option.some.injEq] at h; subst h; exact ho
  | all, o :: l, r, r', h, ho => by
    simp only [xops] at h
    split at h
    · exact (obs_append (xops_ob h ho)).2
    · simp at h

theorem xloop_ob {f : XR → Option (XE × XR)} (hf : ∀ r x r', f r = some (x, r') → Obs r'.ob → Obs r.ob) : ∀ {n : Nat} {r r' : XR} {x : XE}, xloop f n r = some (x, r') → Obs r'.ob → Obs r.ob
  | 0, r, r', x, h, _ => by simp [xloop] at h
  | n + 1, r, r', x, h, ho => by
    simp only [xloop] at h
    cases hr : f r with
    | none => rw [hr] at h; simp at h
    | some p =>
      obtain ⟨y, r1⟩ := p
      rw [hr] at h
      cases y with
      | normal => exact hf _ _ _ hr (xloop_ob hf h ho)
      | exit id => simp at h; obtain ⟨_, rfl⟩ := h; exact hf _ _ _ hr ho
      | ret => simp at h; obtain ⟨_, rfl⟩ := h; exact hf _ _ _ hr ho

theorem xcode_ob : ∀ {n : Nat} {code : Code} {r r' : XR} {x : XE}, xcode c n code r = some (x, r') → Obs r'.ob → Obs r.ob
  | 0, _, _, _, _, h, _ => by simp [xcode] at h
  | n + 1, code, r, r', x, h, ho => by
    cases code with
    | skip => simp only [xcode, Option.some.injEq, Prod.mk.injEq] at h; obtain ⟨_, rfl⟩ := h; exact ho
    | ret => simp only [xcode, Option.some.injEq, Prod.mk.injEq] at h; obtain ⟨_, rfl⟩ := h; exact ho
    | exit id => simp only [xcode, Option.some.injEq, Prod.mk.injEq] at h; obtain ⟨_, rfl⟩ := h; exact ho
    | region id ops d =>
      cases d with
      | false =>
        simp only [xcode] at h
        split at h
        · rename_i r1 hr
          simp only [Option.some.injEq, Prod.mk.injEq] at h
          obtain ⟨_, rfl⟩ := h
          exact xops_ob hr ho
        · simp at h
      | true =>
        simp only [xcode] at h
        split at h
        · rename_i ts r1 hr
          split at h
          · simp only [Option.some.injEq, Prod.mk.injEq] at h
            obtain ⟨_, rfl⟩ := h
            exact ((trace_told hr).ob ho).1
          · simp at h
        · simp at h
    | seq a b =>
      simp only [xcode] at h
      cases hr : xcode c n a r with
      | none => rw [hr] at h; simp at h
      | some p =>
        obtain ⟨y, r1⟩ := p
        rw [hr] at h
        cases y with
        | normal => exact xcode_ob hr (xcode_ob h ho)
        | exit id => simp at h; obtain ⟨_, rfl⟩ := h; exact xcode_ob hr ho
        | ret => simp at h; obtain ⟨_, rfl⟩ := h; exact xcode_ob hr ho
    | cond y a b =>
      simp only [xcode] at h
      split at h
      · exact (obs_append (xcode_ob h ho)).2
      · simp at h
    | block id b =>
      simp only [xcode] at h
      cases hr : xcode c n b r with
      | none => rw [hr] at h; simp at h
      | some p =>
        obtain ⟨y, r1⟩ := p
        rw [hr] at h
        cases y with
        | normal => simp at h; obtain ⟨_, rfl⟩ := h; exact xcode_ob hr ho
        | exit id' =>
          simp only at h
          split at h <;> (simp at h; obtain ⟨_, rfl⟩ := h; exact xcode_ob hr ho)
        | ret => simp at h; obtain ⟨_, rfl⟩ := h; exact xcode_ob hr ho
    | loop b =>
      simp only [xcode] at h
      exact xloop_ob (fun r x r' h ho => xcode_ob h ho) h ho
    | _ => simp [xcode] at h

theorem ConcL.drew {s : St} {R : RC} {a : Act} (h : ConcL O B w0 s R a) : ConcL O B w0 s (R.on { R.w with drawn := R.w.drawn + 1 }) a := by
  have hb : Below R.w.heap.size R.w { R.w with drawn := R.w.drawn + 1 } := ⟨rfl, rfl, rfl, Nat.le_refl _, fun _ _ => rfl⟩
  have := h.c.called hb 0 none (x := .any) (v := undef) trivial
  exact ⟨this, h.al, h.hB⟩

theorem rel_drew (R : RC) : Rel R (R.on { R.w with drawn := R.w.drawn + 1 }) := by
  have hb : Below R.w.heap.size R.w { R.w with drawn := R.w.drawn + 1 } := ⟨rfl, rfl, rfl, Nat.le_refl _, fun _ _ => rfl⟩
  exact ⟨Ext.on R hb, Oth.below hb⟩

theorem ops_sound (hna : B.na = c.na) (hA : c.A = stdAr) (hTy : ∀ t, TyOk P t (c.T t)) (hG : GOk P c.G) {ops : Array Oper} {R00 : RC} {rd : Option Nat} {nn : Nat} {Q : Exit → Act → World → Prop} : ∀ (l : List Oper) (k : Nat), (∀ j, l[j]? = ops[k + j]?) → ∀ {r r' : XR}, xops c ops.toList l r = some r' → Obs r'.ob → (∀ a' R', ConcL O B w0 r'.s R' a' → Rel R00 R' → Q .normal a' R'.w) →
    ∀ (R : RC) (a : Act), ConcL O B w0 r.s R a → Rel R00 R → wpOpsIn (rF rd) nn P ops Q (List.range' k l.length) a R.w
  | [], k, _, r, r', h, _, hQ, R, a, hc, hrel => by
    simp only [xops, Option.some.injEq] at h
    subst h
    exact hQ a R hc hrel
  | o :: l, k, hl, r, r', h, ho, hQ, R, a, hc, hrel => by
    simp only [xops] at h
    split at h
    · rename_i q ds hq
      have hob := obs_append (xops_ob h ho)
      have hi : ops[k]? = some o := by simpa using (hl 0).symm
      rw [List.length_cons, List.range'_succ, wpOpsIn_cons]
      have hnal : isNew q.e = true → ¬ R.al (lenB r.s.hp) := fun _ hh => by rw [hc.al] at hh; exact Nat.lt_irrefl _ hh
      refine (step_sound hA hTy hG hc.c hna hc.hB hnal hi hq hob.1 (fun a' R' hc' hal hsz => ?_)).1
      have hlive := xstep_live hq
      refine ops_sound hna hA hTy hG l (k + 1) (fun j => by have := hl (j + 1); simp only [List.getElem?_cons_succ] at this; rw [this]; congr 1; omega) h ho hQ R' a' ⟨?_, fun m => ?_, hc.hB.mono hsz.oth.size⟩ (hrel.trans hsz)
      · show Conc O B w0 (putF r.s.fr o.dst q.v).length R' (nth (putF r.s.fr o.dst q.v)) (nthB (putE r.s.hp q.e)) a'
        rw [len_putF, nth_putF, nthB_putE _ _ hlive]
        exact hc'
      · show R'.al m ↔ m < lenB (putE r.s.hp q.e)
        rw [hal m, hc.al m, lenB_putE]
        by_cases hn : isNew q.e = true
        · simp [hn]; omega
        · simp [hn]
    · simp at h

/-- What the executor says of a body holds. -/
theorem xcode_sound (hna : B.na = c.na) (hm : P.follows .mixedOrders = true) (hA : c.A = stdAr) (hTy : ∀ t, TyOk P t (c.T t)) (hG : GOk P c.G) {R00 : RC} {rd : Option Nat} {nn : Nat} : ∀ {n : Nat} {code : Code} {r r' : XR} {x : XE} {Q : Exit → Act → World → Prop}, xcode c n code r = some (x, r') → Obs r'.ob → (∀ a' R', ConcL O B w0 r'.s R' a' → Rel R00 R' → Q (exOf x) a' R'.w) →
    ∀ (R : RC) (a : Act), ConcL O B w0 r.s R a → Rel R00 R → code.wpIn (rF rd) nn P Q a R.w
  | 0, _, _, _, _, _, h, _, _, _, _, _, _ => by simp [xcode] at h
  | n + 1, code, r, r', x, Q, h, ho, hQ, R, a, hc, hrel => by
    cases code with
    | skip => simp only [xcode, Option.some.injEq, Prod.mk.injEq] at h; obtain ⟨rfl, rfl⟩ := h; exact wpIn_skip (hQ a R hc hrel)
    | ret => simp only [xcode, Option.some.injEq, Prod.mk.injEq] at h; obtain ⟨rfl, rfl⟩ := h; exact wpIn_ret (hQ a R hc hrel)
    | exit id => simp only [xcode, Option.some.injEq, Prod.mk.injEq] at h; obtain ⟨rfl, rfl⟩ := h; exact wpIn_exit (hQ a R hc hrel)
    | region id ops d =>
      cases d with
      | false =>
        simp only [xcode] at h
        split at h
        · rename_i r1 hr
          simp only [Option.some.injEq, Prod.mk.injEq] at h
          obtain ⟨rfl, rfl⟩ := h
          refine wpIn_region ?_
          rw [List.range_eq_range', ← Array.length_toList]
          exact ops_sound hna hA hTy hG ops.toList 0 (by simp) hr ho hQ R a hc hrel
        · simp at h
      | true =>
        simp only [xcode] at h
        split at h
        · rename_i ts r1 hr
          split at h
          · rename_i hord
            simp only [Option.some.injEq, Prod.mk.injEq] at h
            obtain ⟨rfl, rfl⟩ := h
            refine wpIn_region_any hm ?_
            have hc' := hc.drew
            refine any_sound hna hA hTy hG rfl (trace_told hr) ho hord hQ ops.size _ a _ ⟨⟨R.on { R.w with drawn := R.w.drawn + 1 }, rfl, hrel.trans (rel_drew R), ?_, fun m => ?_⟩, hc'.hB, fun i o _ hi => ?_, by simp⟩ (by rw [Array.toList_replicate, cnt_rep]; exact Nat.le_refl _)
            · have : foldT r.s.fr.length ts 0 (fun j => (Array.replicate ops.size false).getD j false) (nth r.s.fr, nthB r.s.hp) = (nth r.s.fr, nthB r.s.hp) := by
                refine fold_false (fun j => ?_) _ _ _
                simp [Array.getD_eq_getD_getElem?, Array.getElem?_replicate]
                split <;> rfl
              rw [this]
              exact hc'.c
            · rw [hc'.al m]
              constructor
              · exact .inl
              · rintro (h | ⟨j, y, _, h2, _⟩)
                · exact h
                · exfalso
                  simp [Array.getD_eq_getD_getElem?, Array.getElem?_replicate] at h2
                  split at h2 <;> simp at h2
            · exfalso
              simp [Array.getD_eq_getD_getElem?, Array.getElem?_replicate] at hi
              split at hi <;> simp at hi
          · simp at h
        · simp at h
    | seq x1 x2 =>
      simp only [xcode] at h
      refine wpIn_seq ?_
      cases hr : xcode c n x1 r with
      | none => rw [hr] at h; simp at h
      | some p =>
        obtain ⟨y, r1⟩ := p
        rw [hr] at h
        cases y with
        | normal => exact xcode_sound hna hm hA hTy hG hr (xcode_ob h ho) (fun a' R' hc' hr' => xcode_sound hna hm hA hTy hG h ho hQ R' a' hc' hr') R a hc hrel
        | exit id =>
          simp at h; obtain ⟨rfl, rfl⟩ := h
          exact xcode_sound (Q := Exit.then (x2.wpIn (rF rd) nn P Q) Q) hna hm hA hTy hG hr ho (fun a' R' hc' hr' => hQ a' R' hc' hr') R a hc hrel
        | ret =>
          simp at h; obtain ⟨rfl, rfl⟩ := h
          exact xcode_sound (Q := Exit.then (x2.wpIn (rF rd) nn P Q) Q) hna hm hA hTy hG hr ho (fun a' R' hc' hr' => hQ a' R' hc' hr') R a hc hrel
    | cond y x1 x2 =>
      simp only [xcode] at h
      split at h
      · rename_i t ds ob ha
        have hob := obs_append (xcode_ob h ho)
        have hv := ask_spec ha hob.1 (hc.c.ev y)
        refine wpIn_cond hv ?_
        cases t with
        | true => exact xcode_sound hna hm hA hTy hG h ho hQ R a hc hrel
        | false => exact xcode_sound hna hm hA hTy hG h ho hQ R a hc hrel
      · simp at h
    | block id b =>
      simp only [xcode] at h
      refine wpIn_block ?_
      cases hr : xcode c n b r with
      | none => rw [hr] at h; simp at h
      | some p =>
        obtain ⟨y, r1⟩ := p
        rw [hr] at h
        cases y with
        | normal =>
          simp at h; obtain ⟨rfl, rfl⟩ := h
          exact xcode_sound (Q := Exit.inBlock id Q) hna hm hA hTy hG hr ho (fun a' R' hc' hr' => hQ a' R' hc' hr') R a hc hrel
        | exit id' =>
          simp only at h
          split at h
          · rename_i hid
            simp at h; obtain ⟨rfl, rfl⟩ := h
            refine xcode_sound hna hm hA hTy hG hr ho (fun a' R' hc' hr' => ?_) R a hc hrel
            have : id' = id := (eqN_true hid).symm
            show if id' = id then _ else _
            rw [if_pos this]
            exact hQ a' R' hc' hr'
          · rename_i hid
            simp at h; obtain ⟨rfl, rfl⟩ := h
            refine xcode_sound hna hm hA hTy hG hr ho (fun a' R' hc' hr' => ?_) R a hc hrel
            have : ¬ id' = id := fun e => hid (by rw [e]; exact eqN_refl id)
            show if id' = id then _ else _
            rw [if_neg this]
            exact hQ a' R' hc' hr'
        | ret =>
          simp at h; obtain ⟨rfl, rfl⟩ := h
          exact xcode_sound (Q := Exit.inBlock id Q) hna hm hA hTy hG hr ho (fun a' R' hc' hr' => hQ a' R' hc' hr') R a hc hrel
    | loop b =>
      simp only [xcode] at h
      have key : ∀ (k : Nat) (r : XR) (R : RC) (a : Act), xloop (xcode c n b) k r = some (x, r') → ConcL O B w0 r.s R a → Rel R00 R → Code.roundsIn (rF rd) nn P b Q k a R.w := by
        intro k
        induction k with
        | zero => intro r R a h; simp [xloop] at h
        | succ k ih =>
          intro r R a h hc hrel
          simp only [xloop] at h
          show b.wpIn (rF rd) nn P _ a R.w
          cases hr : xcode c n b r with
          | none => rw [hr] at h; simp at h
          | some p =>
            obtain ⟨y, r1⟩ := p
            rw [hr] at h
            cases y with
            | normal =>
              have ho1 : Obs r1.ob := xloop_ob (fun r x r' h ho => xcode_ob h ho) h ho
              exact xcode_sound hna hm hA hTy hG hr ho1 (fun a' R' hc' hr' => ih r1 R' a' h hc' hr') R a hc hrel
            | exit id =>
              simp at h; obtain ⟨rfl, rfl⟩ := h
              exact xcode_sound (Q := Exit.then (Code.roundsIn (rF rd) nn P b Q k) Q) hna hm hA hTy hG hr ho (fun a' R' hc' hr' => hQ a' R' hc' hr') R a hc hrel
            | ret =>
              simp at h; obtain ⟨rfl, rfl⟩ := h
              exact xcode_sound (Q := Exit.then (Code.roundsIn (rF rd) nn P b Q k) Q) hna hm hA hTy hG hr ho (fun a' R' hc' hr' => hQ a' R' hc' hr') R a hc hrel
      exact wpIn_loop_rounds n (key n r R a h hc hrel)
    | _ => simp [xcode] at h
end
end Go.Proofs.SX
