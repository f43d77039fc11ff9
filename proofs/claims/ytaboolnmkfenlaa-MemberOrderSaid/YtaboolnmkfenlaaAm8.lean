/- What one operation of the model does is what the compact operation says: strings, arrays, conversions, structs. -/
import Derived.Test.YtaboolnmkfenlaaAm7
namespace Go.Am
set_option linter.unusedVariables false
set_option linter.unusedSimpArgs false
section
variable {P : Program} {c : Ctx} {A : Nat → Prop} {μ : Mu} {fr : Nat → Prop} {tm : Nat → AV} {hp : Hp} {n : Nat} {a : Act} {w : World}

theorem bndA_opt {d : Nat} {lo : Option Operand} {i : Int} (H : RelE c A μ fr tm hp n a w) (h : bndA d ((lo.map cO).map (evO tm)) = some i) :
    ∃ o : Option Int, OptI o (lo.map a.eval) ∧ o.getD d = i := by
  cases lo with
  | none => simp [bndA] at h; exact ⟨none, trivial, by simp [h]⟩
  | some x =>
    have hx := H.ev x
    simp only [Option.map_some] at h
    unfold bndA at h
    split at h
    · rename_i e; simp at e
    · rename_i k j e
      simp at e h; subst h
      rw [e] at hx
      obtain ⟨hx, _⟩ := hx
      exact ⟨some j, by simp [OptI, hx], rfl⟩
    · cases h

theorem size_extract_le (s : ByteArray) (i j : Nat) : (s.extract i j).size ≤ s.size := by
  rw [ByteArray.size_extract]; omega

theorem does_sliceS {T : TypeId} {f : Nat} (hu : P.underlying T = some .string) (H : RelE c A μ fr tm hp n a w) {x : Operand} {lo hi : Option Operand}
    (hc : (evA (.sliceS (cO x) (lo.map cO) (hi.map cO)) f (evO tm) hp).c) :
    Val P w A μ (Instr.sliceAt T (a.eval x) (lo.map a.eval) (hi.map a.eval) none) (evA (.sliceS (cO x) (lo.map cO) (hi.map cO)) f (evO tm) hp).v := by
  have hx := H.ev x
  simp only [evA] at hc ⊢
  generalize evO tm (cO x) = X at *
  generalize a.eval x = xv at *
  cases X <;> simp only [Out.bad] at hc
  rename_i sv
  obtain ⟨rfl, hx⟩ := hx
  cases xv <;> simp only [] at hc
  rename_i s
  simp only [] at hc ⊢
  split at hc
  case h_2 => exact hc.elim
  rename_i l' h' el eh
  obtain ⟨o1, f1, rfl⟩ := bndA_opt H el
  obtain ⟨o2, f2, rfl⟩ := bndA_opt H eh
  obtain ⟨c1, c2, c3⟩ := hc
  dsimp only
  have hn : ∃ l h : Nat, o1.getD (0 : Nat) = l ∧ o2.getD s.size = h := ⟨_, _, (Int.toNat_of_nonneg c1).symm, (Int.toNat_of_nonneg (by omega)).symm⟩
  obtain ⟨l, h, gl, gh⟩ := hn
  rw [gl] at c1 c2; rw [gh] at c2 c3
  rw [gl, gh]
  have hb : (Instr.sliceBounds false s.size s.size (lo.map a.eval) (hi.map a.eval) none).run P w = .ok (l, h, s.size) w := by
    refine run_sliceBounds (mx := none) (mx' := none) f1 f2 trivial ⟨Nat.le_refl _, fun _ => rfl, fun i e => by simp at e⟩ ⟨by omega, fun e => ?_, fun i e => ?_⟩ ⟨by omega, fun e => ?_, fun i e => ?_⟩
    · subst e; simp at gh; exact ⟨by omega, rfl⟩
    · subst e; simpa using gh
    · subst e; simp at gl; omega
    · subst e; simpa using gl
  rw [Int.toNat_natCast, Int.toNat_natCast]
  refine ⟨.string (s.extract l h), ?_, rfl, ?_⟩
  · simp [Instr.sliceAt, Instr.slice, run_underlying hu, hb]
  · have := size_extract_le s l h
    have hx' : s.size ≤ maxLen := hx
    simp only [plainV]; omega

theorem does_sliceA {T e : TypeId} {N k f : Nat} (hu : P.underlying T = some (.array N e)) (hs : sizeOf? P e = some k) (H : RelE c A μ fr tm hp n a w) {x : Operand} {lo hi : Option Operand}
    (hc : (evA (.sliceA N k (cO x) (lo.map cO) (hi.map cO)) f (evO tm) hp).c) :
    Val P w A μ (Instr.sliceAt T (a.eval x) (lo.map a.eval) (hi.map a.eval) none) (evA (.sliceA N k (cO x) (lo.map cO) (hi.map cO)) f (evO tm) hp).v := by
  have hx := H.ev x
  simp only [evA] at hc ⊢
  generalize evO tm (cO x) = X at *
  generalize a.eval x = xv at *
  cases X <;> simp only [Out.bad] at hc
  rename_i b off
  obtain ⟨hd, e1, e2, rfl⟩ := hx
  split at hc
  case h_2 => exact hc.elim
  rename_i l' h' el eh
  obtain ⟨o1, f1, rfl⟩ := bndA_opt H el
  obtain ⟨o2, f2, rfl⟩ := bndA_opt H eh
  obtain ⟨c1, c2, c3, c4⟩ := hc
  dsimp only
  have hn : ∃ l h : Nat, o1.getD (0 : Nat) = l ∧ o2.getD N = h := ⟨_, _, (Int.toNat_of_nonneg c1).symm, (Int.toNat_of_nonneg (by omega)).symm⟩
  obtain ⟨l, h, gl, gh⟩ := hn
  rw [gl] at c1 c2; rw [gh] at c2 c3
  rw [gl, gh]
  have hb : (Instr.sliceBounds false N N (lo.map a.eval) (hi.map a.eval) none).run P w = .ok (l, h, N) w := by
    refine run_sliceBounds (mx := none) (mx' := none) f1 f2 trivial ⟨Nat.le_refl _, fun _ => rfl, fun i e => by simp at e⟩ ⟨by omega, fun e => ?_, fun i e => ?_⟩ ⟨by omega, fun e => ?_, fun i e => ?_⟩
    · subst e; simp at gh; exact ⟨by omega, rfl⟩
    · subst e; simpa using gh
    · subst e; simp at gl; omega
    · subst e; simpa using gl
  have e3 : ((h : Int) - (l : Int)).toNat = h - l := by omega
  simp only [e3, Int.toNat_natCast]
  refine ⟨_, ?_, hd, N - l, if N = l then off else off + l * k, e1, e2, by omega, ?_, rfl⟩
  · simp only [Instr.sliceAt, Sem.run_bind, run_underlying hu, Result.andThen_ok, run_sureAddr, hb, run_sizeOf_of hs, Sem.run_pure]
    congr 2
    split <;> simp [Addr.add_lit]
  · intro h0; rw [if_neg (by omega)]

theorem does_convI {S D : TypeId} {k k0 : IntKind} {f : Nat} (hs : P.underlying S = some (.int k0)) (hd : P.underlying D = some (.int k)) {X : AO} {x : Value} (hx : RV w A (evO tm X) μ x)
    (hc : (evA (.convI k X) f (evO tm) hp).c) : Val P w A μ (convert S D x) (evA (.convI k X) f (evO tm) hp).v := by
  simp only [evA] at hc ⊢
  generalize evO tm X = Y at *
  cases Y <;> simp only [Out.bad] at hc
  obtain ⟨rfl, _⟩ := hx
  cases x <;> simp only [] at hc
  exact ⟨_, by simp [convert, run_underlying hs, run_underlying hd, Conv.intToInt], rv_int (wrap_inK _ _)⟩

theorem does_convS {S D : TypeId} {f : Nat} (hs : P.underlying S = some .string) (hd : P.underlying D = some .string) {X : AO} {x : Value} (hx : RV w A (evO tm X) μ x) (hc : (evA (.convS X) f (evO tm) hp).c) :
    Val P w A μ (convert S D x) (evA (.convS X) f (evO tm) hp).v := by
  simp only [evA] at hc ⊢
  generalize evO tm X = Y at *
  cases Y <;> simp only [Out.bad] at hc
  obtain ⟨rfl, h⟩ := hx
  cases x <;> simp only [] at hc
  exact ⟨_, by simp [convert, run_underlying hs, run_underlying hd], rfl, h⟩

/-! ### Bytes to a string -/
theorem bytesA_vals : ∀ {es : List AV} {vs : List Value} {bs : List UInt8}, RVL w A es μ vs → bytesA es = some bs →
    ∃ ns : List Int, vs = ns.map (Value.int .u8) ∧ ns.map (fun n => UInt8.ofNat n.toNat) = bs ∧ (∀ v ∈ vs, v.cells = #[v])
  | [], vs, bs, h, e => by
    simp [bytesA] at e; subst e
    simp [RVL] at h; subst h; exact ⟨[], by simp⟩
  | x :: xs, vs, bs, ⟨v, vs', h0, h1, h2⟩, e => by
    subst h0
    unfold bytesA at e
    split at e
    · rename_i h; cases h
    · rename_i nn r heq
      cases heq
      cases hr : bytesA xs with
      | none => simp [hr] at e
      | some bs' =>
        simp [hr] at e; subst e
        obtain ⟨ns, f1, f2, f3⟩ := bytesA_vals h2 hr
        obtain ⟨rfl, hin⟩ := h1
        refine ⟨nn :: ns, by simp [f1], by simp [f2], ?_⟩
        intro v hv
        rcases List.mem_cons.1 hv with rfl | hv
        · rfl
        · exact f3 v hv
    · cases e

theorem foldl_push (ns : List Int) : ∀ (s : ByteArray), ns.foldl (fun (r : ByteArray) n => r.push (UInt8.ofNat n.toNat)) s = ⟨s.data ++ (ns.map (fun n => UInt8.ofNat n.toNat)).toArray⟩ := by
  induction ns with
  | nil => intro s; simp
  | cons n ns ih =>
    intro s
    rw [List.foldl_cons, ih]
    congr 1
    apply Array.ext'
    simp [ByteArray.push]

theorem run_bytesString {b o ln cap : Nat} {es : List AV} {vs : List Value} {bs : List UInt8} (h : RVL w A es μ vs) (he : bytesA es = some bs) (hl : es.length = ln)
    (hr : ∀ p u, (vs.flatMap (·.cells.toList))[p]? = some u → w.cell? ⟨b, o + p, none⟩ = some u) :
    (Conv.bytesToString (.slice (some ⟨b, o, none⟩) ln cap)).run P w = .ok (.string ⟨bs.toArray⟩) w := by
  obtain ⟨ns, f1, f2, f3⟩ := bytesA_vals h he
  have hf : vs.flatMap (·.cells.toList) = vs := by
    clear hr h f1
    induction vs with
    | nil => rfl
    | cons v vs ih => rw [List.flatMap_cons, f3 v (by simp), ih (fun u hu => f3 u (by simp [hu]))]; rfl
  rw [hf] at hr
  have h1 := run_loadCells_list (P := P) w ⟨b, o, none⟩ vs (fun j u hj => by rw [Addr.add_lit]; exact hr j u hj)
  rw [← h.length, hl, f1] at h1
  have h2 := run_bytesToString (P := P) w ⟨b, o, none⟩ ln cap ns h1
  rw [h2, foldl_push, f2]
  simp

theorem bytesA_len : ∀ {es : List AV} {bs : List UInt8}, bytesA es = some bs → bs.length = es.length
  | [], bs, e => by simp [bytesA] at e; subst e; rfl
  | x :: xs, bs, e => by
    unfold bytesA at e
    split at e
    · rename_i h; cases h
    · rename_i nn r heq
      cases heq
      cases hr : bytesA xs with
      | none => simp [hr] at e
      | some bs' => simp [hr] at e; subst e; simp [bytesA_len hr]
    · cases e

theorem does_convBS {S D e : TypeId} {f : Nat} (hs : P.underlying S = some (.slice e)) (he : P.underlying e = some (.int .u8)) (hd : P.underlying D = some .string) (H : RelE c A μ fr tm hp n a w)
    {X : AO} {x : Value} (hx : RV w A (evO tm X) μ x) (hc : (evA (.convBS X) f (evO tm) hp).c) :
    Val P w A μ (convert S D x) (evA (.convBS X) f (evO tm) hp).v := by
  unfold Val
  simp only [evA] at hc ⊢
  generalize evO tm X = Y at *
  split at hc
  · rename_i es full
    split at hc
    case h_2 => exact hc.elim
    rename_i bs hbs
    rcases hx with ⟨rfl, a0, rfl⟩ | ⟨blk, off, cap, vs, rfl, g1, g2, g3, g4, g5, g6, g7, g8⟩
    · simp [bytesA] at hbs; subst hbs
      refine ⟨.string ⟨[].toArray⟩, ?_, rfl, Nat.zero_le _⟩
      rw [run_convert_bytes_string w S D e _ _ _ hs he hd]
      cases a0 with
      | none => rfl
      | some aa => simp [Conv.bytesToString, loadCells, loadCellsFrom]; rfl
    · refine ⟨_, by rw [run_convert_bytes_string w S D e _ _ _ hs he hd]; exact run_bytesString g5 hbs rfl g7, rfl, ?_⟩
      have hl := bytesA_len hbs
      show bs.toArray.size ≤ maxLen
      simp; omega
  · rename_i b
    split at hc
    · rename_i es hb
      split at hc
      case h_2 => exact hc.elim
      rename_i bs hbs
      simp only [hb, hbs]
      obtain ⟨hd', e1, e2⟩ := hx
      obtain ⟨hd'', f1, f2, f3⟩ := H.vec hb
      rw [e1] at f1; cases f1
      rcases f3 with ⟨rfl, a', f3⟩ | ⟨g1, g2, g3, g4, C, ty, vs, k1, k2, k3, k4, k5, k6, k7⟩
      · simp [bytesA] at hbs; subst hbs
        refine ⟨_, ?_, rfl, Nat.zero_le _⟩
        rw [e2, Hd.val, f3]
        simp only []
        rw [run_convert_bytes_string w S D e _ _ _ hs he hd]
        cases a' with
        | none => rfl
        | some aa => simp [Conv.bytesToString, loadCells, loadCellsFrom]; rfl
      · refine ⟨_, ?_, rfl, ?_⟩
        · rw [e2, Hd.val, g1]
          simp only []
          rw [run_convert_bytes_string w S D e _ _ _ hs he hd]
          exact run_bytesString (o := 0) k2 hbs g2.symm (fun p u hu => by rw [Nat.zero_add]; exact k7 p u hu)
        · have hl := bytesA_len hbs
          show bs.toArray.size ≤ maxLen
          simp; omega
    · exact hc.elim
  · rename_i b o ln
    split at hc
    case h_2 => exact hc.elim
    rename_i cs hcs
    split at hc
    case h_2 => exact hc.elim
    rename_i bs hbs
    simp only [hcs, hbs]
    obtain ⟨c1, c2⟩ := hc
    unfold boxCells at hcs
    split at hcs
    case h_2 => cases hcs
    rename_i y hy
    split at hcs
    case isFalse => cases hcs
    cases hcs
    obtain ⟨hd1, v, ty, e1, e2, e3, e4, e5, e6⟩ := H.box hy
    obtain ⟨hd', cap, oo, f1, f2, f3, f4, rfl⟩ := hx
    rw [e1] at f1; cases f1
    have hcl := RV.cells e3 e4
    have hll := hcl.1.length
    have hlen : ((y.cells.drop o).take ln).length = ln := by simp; omega
    have hrv := (hcl.1.drop o).take ln
    obtain ⟨ns, k1, k2, k3⟩ := bytesA_vals hrv hbs
    have hf : ((v.cells.toList.drop o).take ln).flatMap (·.cells.toList) = (v.cells.toList.drop o).take ln := by
      clear e6 hrv k1 hlen hll hcl
      generalize (v.cells.toList.drop o).take ln = us at *
      induction us with
      | nil => rfl
      | cons u us ih => rw [List.flatMap_cons, k3 u (by simp), ih (fun u hu => k3 u (by simp [hu]))]; rfl
    refine ⟨.string ⟨bs.toArray⟩, ?_, rfl, by show bs.toArray.size ≤ maxLen; simpa using c2⟩
    rw [run_convert_bytes_string w S D e _ _ _ hs he hd]
    refine run_bytesString hrv hbs hlen (fun p u hu => ?_)
    rw [hf, List.getElem?_take] at hu
    split at hu
    · rename_i hlt
      rw [List.getElem?_drop] at hu
      rw [f4 (by omega)]
      have := e6 (o + p) u (by simpa using hu)
      simpa using this
    · cases hu
  · exact hc.elim

/-! ### Structs that are compared -/
theorem run_part_basic {T : TypeId} {k : EK} (hb : basicK P T = some k) {vs : Array Value} {off : Nat} {v : Value} (hv : vs[off]? = some v) : (part T vs off).run P w = .ok v w := by
  unfold basicK at hb
  split at hb
  · rename_i hu; simp [part, isAgg, run_underlying hu, hv]
  · rename_i hu; simp [part, isAgg, run_underlying hu, hv]
  · rename_i hu; simp [part, isAgg, run_underlying hu, hv]
  · cases hb

theorem run_eqFields : ∀ (fs : List Field) (j d : Nat) (vs us : Array Value) (xs ys : List AV) (ks : List EK) (b : Bool), flatL P fs j = some ks → RVL w A xs μ (vs.toList.drop j) → RVL w A ys μ (us.toList.drop j) →
    eqCells ks xs ys = some b → (Op.eqFields (d + 1) vs us fs).run P w = .ok b w := by
  intro fs
  induction fs with
  | nil =>
    intro j d vs us xs ys ks b hf hx hy he
    simp [flatL] at hf; subst hf
    cases xs <;> cases ys <;> simp [eqCells] at he
    subst he; simp [Op.eqFields]
  | cons f fs ih =>
    intro j d vs us xs ys ks b hf hx hy he
    unfold flatL at hf
    split at hf
    case h_2 => cases hf
    rename_i k ks' hb hr
    split at hf
    case isFalse => cases hf
    rename_i hoff
    simp only [Bool.and_eq_true, beq_iff_eq, bne_iff_ne, ne_eq] at hoff
    obtain ⟨ho, hn⟩ := hoff
    cases hf
    cases xs with
    | nil => cases k <;> simp [eqCells] at he
    | cons x xs =>
      cases ys with
      | nil => cases k <;> simp [eqCells] at he
      | cons y ys =>
        have hvd : ∀ (zs : Array Value) (z : AV) (zz : List AV), RVL w A (z :: zz) μ (zs.toList.drop j) → ∃ v, zs[j]? = some v ∧ RV w A z μ v ∧ RVL w A zz μ (zs.toList.drop (j + 1)) := by
          intro zs z zz hz
          obtain ⟨v, vs', e1, e2, e3⟩ := hz
          have hj : zs[j]? = some v := by
            have : (zs.toList.drop j)[0]? = some v := by rw [e1]; rfl
            rw [List.getElem?_drop] at this
            simpa using this
          refine ⟨v, hj, e2, ?_⟩
          have : zs.toList.drop (j + 1) = vs' := by rw [← List.drop_drop, e1]; rfl
          rw [this]; exact e3
        obtain ⟨v, v1, v2, v3⟩ := hvd vs x xs hx
        obtain ⟨u, u1, u2, u3⟩ := hvd us y ys hy
        simp only [Op.eqFields, ne_eq, hn, not_false_eq_true, if_true, Sem.run_bind, ho, run_part_basic hb v1, run_part_basic hb u1, Result.andThen_ok]
        have fin : ∀ (r : Bool), (Op.equalIn (d + 1) f.type v u).run P w = .ok r w → (eqCells ks' xs ys).map (r && ·) = some b →
            ((Op.equalIn (d + 1) f.type v u).run P w).andThen (fun a_1 w' => (if (!a_1) = true then pure false else Op.eqFields (d + 1) vs us fs : Sem Bool).run P w') = .ok b w := by
          intro r h1 h2
          rw [h1]
          cases hq : eqCells ks' xs ys with
          | none => simp [hq] at h2
          | some q =>
            have := ih (j + 1) d vs us xs ys ks' q hr v3 u3 hq
            rw [hq] at h2
            simp only [Option.map_some, Option.some.injEq] at h2
            cases r <;> simp at h2 <;> subst h2 <;> simp [this]
        unfold basicK at hb
        cases k
        · split at hb <;> cases hb
          rename_i kk hu
          unfold eqCells at he
          split at he <;> try (first | (cases he; done) | (rename_i h _ _; cases h; done))
          rename_i h1 h2 h3
          cases h1; cases h2; cases h3
          obtain ⟨rfl, _⟩ := v2
          obtain ⟨rfl, _⟩ := u2
          split at he
          case isFalse => cases he
          rename_i hk
          subst hk
          exact fin _ (run_equalIn_int w d _ _ _ _ _ hu) he
        · split at hb <;> cases hb
          rename_i hu
          unfold eqCells at he
          split at he <;> try (first | (cases he; done) | (rename_i h _ _; cases h; done))
          rename_i h1 h2 h3
          cases h1; cases h2; cases h3
          obtain ⟨rfl, _⟩ := v2
          obtain ⟨rfl, _⟩ := u2
          exact fin _ (run_equalIn_bool hu d _ _) he
        · split at hb <;> cases hb
          rename_i hu
          unfold eqCells at he
          split at he <;> try (first | (cases he; done) | (rename_i h _ _; cases h; done))
          rename_i h1 h2 h3
          cases h1; cases h2; cases h3
          obtain ⟨rfl, _⟩ := v2
          obtain ⟨rfl, _⟩ := u2
          exact fin _ (run_equalIn_string w d _ _ _ hu) he

theorem does_eqs {T : TypeId} {ks : List EK} {ne : Bool} {f : Nat} (hT : flatT P T = some ks) (op : BinOp) (hop : op = if ne then .neq else .eql) {x y : Operand} (H : RelE c A μ fr tm hp n a w)
    (hc : (evA (.eqs ks ne (cO x) (cO y)) f (evO tm) hp).c) :
    ∃ cv, (do eqGuard op T x y (a.eval x) (a.eval y); binOp op T (a.eval x) (a.eval y) : Sem Value).run P w = .ok cv w ∧ RV w A (evA (.eqs ks ne (cO x) (cO y)) f (evO tm) hp).v μ cv := by
  have hx := H.ev x
  have hy := H.ev y
  simp only [evA] at hc ⊢
  split at hc
  case h_2 => exact hc.elim
  rename_i xs ys hX hY
  split at hc
  case h_2 => exact hc.elim
  rename_i b hb
  rw [hX] at hx; rw [hY] at hy
  simp only [hX, hY, hb]
  obtain ⟨vs, e1, e2, _⟩ := hx
  obtain ⟨us, g1, g2, _⟩ := hy
  unfold flatT at hT
  split at hT
  case h_2 => cases hT
  rename_i fs hu
  split at hT
  case isFalse => cases hT
  rename_i hh
  simp only [Bool.and_eq_true, Bool.not_eq_true'] at hh
  have hfo : P.fieldsOf T = fs := by simp [Program.fieldsOf, hu]
  have hs := run_equalIn_struct (P := P) w 9999 T vs.toArray us.toArray (by rw [hfo]; exact hu) hh.1
  rw [hfo, run_eqFields fs.toList 0 9998 vs.toArray us.toArray xs ys ks b hT (by simpa using e2) (by simpa using g2) hb] at hs
  rw [e1, g1]
  rw [Sem.run_bind, run_eqGuard_agg w op T x y _ _ hh.2, Result.andThen_ok]
  subst hop
  cases ne
  · exact ⟨.bool b, by simp only [Bool.false_eq_true, ↓reduceIte]; rw [run_eql_struct, hs]; rfl, rv_bool _⟩
  · exact ⟨.bool (!b), by simp only [↓reduceIte]; rw [run_neq_struct, hs]; rfl, rv_bool _⟩

/-! ### Structs and arrays that are built -/
def placesV (vs : List Value) (ps : List (Nat × List Value)) : List Value := ps.foldl (fun cs p => cs.take p.1 ++ p.2 ++ cs.drop (p.1 + p.2.length)) vs

theorem foldl_set_splice (xs : List Value) : ∀ (cs : Array Value) (off j : Nat), off + j + xs.length ≤ cs.size →
    (xs.zipIdx j).foldl (fun (cs : Array Value) (p : Value × Nat) => cs.setIfInBounds (off + p.2) p.1) cs = (cs.toList.take (off + j) ++ xs ++ cs.toList.drop (off + j + xs.length)).toArray := by
  induction xs with
  | nil => intro cs off j h; simp
  | cons x xs ih =>
    intro cs off j h
    simp only [List.zipIdx_cons, List.foldl_cons]
    rw [ih _ _ _ (by simp at h ⊢; omega)]
    apply Array.ext'
    have e := list_seg_step cs.toList (off + j) x xs (by simp at h ⊢; omega)
    simp only [Array.toList_setIfInBounds]
    simpa [Nat.add_assoc] using e

theorem run_fill {place : Nat → Option (Nat × Nat)} : ∀ (ps : List (Nat × Value)) (qs : List (Nat × Nat × AV)) (cs : Array Value) (zs : List AV),
    qs.length = ps.length → (∀ (i : Nat) (p : Nat × Value) (q : Nat × Nat × AV), ps[i]? = some p → qs[i]? = some q → place p.1 = some (q.1, q.2.1) ∧ RV w A q.2.2 μ p.2) →
    RVL w A zs μ cs.toList → (∀ v ∈ cs.toList, v.oneCell' = true) → fillOk cs.size qs →
    ∃ cs', Instr.fill place cs ps = some cs' ∧ RVL w A (fillA zs qs) μ cs'.toList ∧ (∀ v ∈ cs'.toList, v.oneCell' = true)
  | [], qs, cs, zs, hl, _, hz, ho, _ => by
    have : qs = [] := List.eq_nil_of_length_eq_zero (by simpa using hl)
    subst this
    exact ⟨cs, rfl, hz, ho⟩
  | (i, v) :: ps, [], cs, zs, hl, _, _, _, _ => by simp at hl
  | (i, v) :: ps, (off, sz, x) :: qs, cs, zs, hl, hp, hz, ho, hk => by
    obtain ⟨h1, h2⟩ := hp 0 _ _ rfl rfl
    obtain ⟨k1, k2, k3⟩ := hk (off, sz, x) (by simp)
    simp only at h1 h2 k1 k2 k3
    obtain ⟨r1, r2⟩ := RV.cells k1 h2
    have r3 := r1.length
    have hsz : v.cells.size = sz := by simp at r3; omega
    have hfold := foldl_set_splice v.cells.toList cs off 0 (by simp; omega)
    have ih := run_fill ps qs (cs.toList.take off ++ v.cells.toList ++ cs.toList.drop (off + v.cells.toList.length)).toArray (splice zs off x.cells) (by simpa using hl)
      (fun j p q hj hq => hp (j + 1) p q (by simpa using hj) (by simpa using hq)) (by
        unfold splice
        have hxl : x.cells.length = v.cells.toList.length := by simpa using r3
        rw [hxl]
        simpa using ((hz.take off).append r1).append (hz.drop (off + v.cells.toList.length)))
      (by
        intro u hu
        simp only [List.mem_append] at hu
        rcases hu with (hu | hu) | hu
        · exact ho u (List.mem_of_mem_take hu)
        · exact r2 u hu
        · exact ho u (List.mem_of_mem_drop hu))
      (by
        intro q hq
        have := hk q (by simp [hq])
        refine ⟨this.1, this.2.1, ?_⟩
        have hle := this.2.2
        simp; omega)
    obtain ⟨cs', e1, e2, e3⟩ := ih
    refine ⟨cs', ?_, e2, e3⟩
    simp only [Instr.fill, h1]
    rw [if_neg (by simp; omega)]
    rw [← e1]
    congr 1
    simp only [Nat.add_zero] at hfold
    rw [← hfold]
    rw [← Array.foldl_toList, Array.toList_zipIdx]
end
end Go.Am
