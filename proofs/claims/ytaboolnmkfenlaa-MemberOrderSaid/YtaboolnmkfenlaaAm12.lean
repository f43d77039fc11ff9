/- Every operation of the model that is no call of a Go function does what the compact operation says. -/
import Derived.Test.YtaboolnmkfenlaaAm11b
namespace Go.Am
set_option linter.unusedVariables false
set_option linter.unusedSimpArgs false
section
variable {P : Program} {c : Ctx} {A : Nat → Prop} {μ : Mu} {fr : Nat → Prop} {tm : Nat → AV} {hp : Hp} {n : Nat} {a : Act} {w : World}

def DoesN (P : Program) (c : Ctx) (fr : Nat → Prop) (tm : Nat → AV) (hp : Hp) (n : Nat) (a : Act) (w : World) (f : Nat) (s : Sem Next) (out : Out) : Prop :=
  ∃ cv w' A' μ', (s.run P w = .ok (.value cv) w' ∨ (s.run P w = .ok .skip w' ∧ cv = undef)) ∧ RelE c A' μ' (fun b => fr b ∧ b ≠ f) tm (hpAfter out hp) n a w' ∧ RV w' A' out.v μ' cv

theorem DoesM.next {s : Sem Value} {f : Nat} {out : Out} (h : DoesM P c fr tm hp n a w f s out) : DoesN P c fr tm hp n a w f (do pure (.value (← s))) out := by
  obtain ⟨cv, w', A', μ', h1, h2, h3⟩ := h
  exact ⟨cv, w', A', μ', .inl (by simp only [Sem.run_bind, h1, Result.andThen_ok, Sem.run_pure]), h2, h3⟩
theorem Val.next {s : Sem Value} {out : Out} {f : Nat} (H : RelE c A μ fr tm hp n a w) (h : Val P w A μ s out.v) (h1 : out.rm = none) (h2 : out.ad = none) : DoesN P c fr tm hp n a w f (do pure (.value (← s))) out :=
  (h.does H h1 h2).next

theorem binA_pure (op : BinOp) (x y : AV) : (binA op x y).rm = none ∧ (binA op x y).ad = none := by
  unfold binA; split
  · cases op <;> exact ⟨rfl, rfl⟩
  · cases op <;> exact ⟨rfl, rfl⟩
  · exact ⟨rfl, rfl⟩
theorem binBA_pure (op : BinOp) (x y : AV) : (binBA op x y).rm = none ∧ (binBA op x y).ad = none := by
  unfold binBA; split
  · cases op <;> exact ⟨rfl, rfl⟩
  · exact ⟨rfl, rfl⟩
theorem unA_pure (op : UnOp) (x : AV) : (unA op x).rm = none ∧ (unA op x).ad = none := by unfold unA; split <;> exact ⟨rfl, rfl⟩
theorem lenA_pure (hp : Hp) (x : AV) : (lenA hp x).rm = none ∧ (lenA hp x).ad = none := by
  unfold lenA; repeat' split
  all_goals exact ⟨rfl, rfl⟩
theorem foldA_pure (g : Int → Int → Int) (x : List AV) : (foldA g x).rm = none ∧ (foldA g x).ad = none := by
  unfold foldA; repeat' split
  all_goals exact ⟨rfl, rfl⟩
theorem sliceA_pure (hp : Hp) (k : Nat) (x : AV) (lo hi mx : Option Int) : (sliceA hp k x lo hi mx).rm = none ∧ (sliceA hp k x lo hi mx).ad = none := by
  unfold sliceA; repeat' split
  all_goals exact ⟨rfl, rfl⟩

theorem some_of {α : Type} {o : Option α} {x : α} (h : o = some x) : ∃ y, o = some y := ⟨x, h⟩

theorem optI_of {lo : Option Operand} {v : Option AV} (H : RelE c A μ fr tm hp n a w) (h : (lo.map cO).map (evO tm) = v) (o : Option Int)
    (ho : (v = none ∧ o = none) ∨ ∃ k i, v = some (.val (.int k i)) ∧ o = some i) : OptI o (lo.map a.eval) := by
  cases lo with
  | none => simp at h; subst h; rcases ho with ⟨_, rfl⟩ | ⟨k, i, h, _⟩; trivial; cases h
  | some x =>
    have hx := H.ev x
    simp at h
    rcases ho with ⟨h', _⟩ | ⟨k, i, h', rfl⟩
    · rw [h'] at h; cases h
    · rw [h'] at h
      have e : evO tm (cO x) = .val (.int k i) := Option.some.inj h
      rw [e] at hx
      obtain ⟨hx, _⟩ := hx
      simp [OptI, hx]

theorem DoesN.congr {s s' : Sem Next} {f : Nat} {out : Out} (h : DoesN P c fr tm hp n a w f s' out) (e : s.run P w = s'.run P w) : DoesN P c fr tm hp n a w f s out := by
  unfold DoesN at *; rwa [e]

theorem exec_builtin {o : Oper} {b : Builtin} {args : Array Operand} {ts : Array TypeId} (ho : o.op = .call { callee := .builtin b, args := args, argTypes := ts }) :
    ∃ consts, (execOp a.eval o).run P w = (builtin b ts o.type consts (args.map a.eval)).run P w := by
  have h1 : ∃ cs : Array Bool, resolve a.eval { callee := .builtin b, args := args, argTypes := ts } o.type = pure { target := .builtin b ts o.type cs, args := args.map a.eval } := ⟨_, rfl⟩
  obtain ⟨cs, h⟩ := h1
  refine ⟨cs, ?_⟩
  unfold execOp
  rw [ho]
  simp only [h, Sem.run_bind, Sem.run_pure, Result.andThen_ok, invoke]

theorem evA_call {o : Oper} {cc : Call} {f : Nat} (ho : o.op = .call cc) (H : RelE c A μ fr tm hp n a w) (hf : fr f) (hc : (evA (cCall P cc o.type) f (evO tm) hp).c) :
    DoesN P c fr tm hp n a w f (execOp a.eval o) (evA (cCall P cc o.type) f (evO tm) hp) := by
  have bad : ∀ {op'}, op' = AOp.bad → (evA op' f (evO tm) hp).c → False := by rintro _ rfl h; exact h
  obtain ⟨callee, args, ts⟩ := cc
  cases callee with
  | value g => simp only [cCall, evA] at hc; exact hc.elim
  | invoke r m => simp only [cCall, evA] at hc; exact hc.elim
  | builtin b =>
    obtain ⟨consts, he⟩ := exec_builtin (P := P) (w := w) (a := a) ho
    refine DoesN.congr ?_ he
    clear he ho
    simp only [cCall] at hc ⊢
    split at hc
    · -- len
      rename_i x t e1 e2
      have ea : args = #[x] := by apply Array.ext'; simpa using e1
      have et : ts = #[t] := by apply Array.ext'; simpa using e2
      subst ea; subst et
      split at hc
      · rename_i N e hu
        split at hc
        case isFalse => exact (bad rfl hc).elim
        rename_i hN
        try rw [if_pos hN]
        refine Val.next (s := Builtin.len_ #[t] o.type (#[x].map a.eval)) H ⟨.int .i64 N, ?_, rv_int (inK_nat hN)⟩ rfl rfl
        simp [Builtin.len_, run_underlying hu, goInt]
      · rename_i hu
        refine Val.next (s := Builtin.len_ #[t] o.type (#[x].map a.eval)) H (by simpa using does_lenS (P := P) (ty := o.type) hu (H.ev x) hc) ?_ ?_ <;> (simp only [evA]; split <;> rfl)
      · rename_i e hu
        exact Val.next (s := Builtin.len_ #[t] o.type (#[x].map a.eval)) H (by rw [show (#[x].map a.eval : Array Value) = #[a.eval x] by simp]; exact does_len (P := P) (ty := o.type) H hu (H.ev x) hc) (lenA_pure _ _).1 (lenA_pure _ _).2
      · exact (bad rfl hc).elim
    · -- cap
      rename_i x t e1 e2
      have ea : args = #[x] := by apply Array.ext'; simpa using e1
      have et : ts = #[t] := by apply Array.ext'; simpa using e2
      subst ea; subst et
      split at hc
      case h_2 => exact (bad rfl hc).elim
      rename_i e hu
      refine Val.next (s := Builtin.cap_ #[t] o.type (#[x].map a.eval)) H (by simpa using does_cap (P := P) (ty := o.type) H hu (H.ev x) hc) ?_ ?_ <;> (simp only [evA]; (repeat' split) <;> rfl)
    · -- min
      have hx := H.evs args.toList
      have ea : args.map a.eval = (args.toList.map a.eval).toArray := by apply Array.ext'; simp
      rw [ea]
      have e3 : (args.toList.map cO).map (evO tm) = args.toList.map fun x => evO tm (cO x) := by simp
      simp only [evA, e3] at hc ⊢
      exact Val.next (s := Builtin.min_ ts o.type _) H (does_min hx hc) (foldA_pure _ _).1 (foldA_pure _ _).2
    · -- max
      have hx := H.evs args.toList
      have ea : args.map a.eval = (args.toList.map a.eval).toArray := by apply Array.ext'; simp
      rw [ea]
      have e3 : (args.toList.map cO).map (evO tm) = args.toList.map fun x => evO tm (cO x) := by simp
      simp only [evA, e3] at hc ⊢
      exact Val.next (s := Builtin.max_ ts o.type _) H (does_max hx hc) (foldA_pure _ _).1 (foldA_pure _ _).2
    · -- append
      rename_i s x t u e1 e2
      have ea : args = #[s, x] := by apply Array.ext'; simpa using e1
      have et : ts = #[t, u] := by apply Array.ext'; simpa using e2
      subst ea; subst et
      split at hc
      · rename_i e e' hu hu'
        split at hc
        case h_2 => exact (bad rfl hc).elim
        rename_i k b z hs hb hz
        split at hc
        case isFalse => exact (bad rfl hc).elim
        rename_i hk
        try rw [if_pos hk]
        obtain ⟨i, hi, hik, hib⟩ := info_of hs hb
        have hiz : i.zero = some z := by simpa [hi] using hz
        refine DoesM.next (s := Builtin.append_ #[t, u] o.type (#[s, x].map a.eval)) ?_
        have := does_append (P := P) (ty := o.type) (tx := u) hu hi hik hib hiz hk.2 hk.1 H hf (H.ev s) (fun xs hxs => src_of H (H.ev x) hxs hu') hc
        rw [show (#[s, x].map a.eval : Array Value) = #[a.eval s, a.eval x] by simp]
        exact this
      · rename_i e hu hu'
        split at hc
        case h_2 => exact (bad rfl hc).elim
        rename_i b z hs hb hz
        split at hc
        case isFalse => exact (bad rfl hc).elim
        rename_i hk
        try rw [if_pos hk]
        obtain ⟨i, hi, hik, hib⟩ := info_of hs hb
        have hiz : i.zero = some z := by simpa [hi] using hz
        refine DoesM.next (s := Builtin.append_ #[t, u] o.type (#[s, x].map a.eval)) ?_
        have := does_append (P := P) (ty := o.type) (tx := u) hu hi hik hib hiz hk (by omega) H hf (H.ev s) (fun xs hxs => srcS_of (H.ev x) hxs hu') hc
        rw [show (#[s, x].map a.eval : Array Value) = #[a.eval s, a.eval x] by simp]
        exact this
      · rename_i e kn hu hu'
        split at hc
        case h_2 => exact (bad rfl hc).elim
        rename_i k b z hs hb hz
        split at hc
        case isFalse => exact (bad rfl hc).elim
        rename_i hk
        try rw [if_pos hk]
        refine DoesM.next (s := Builtin.append_ #[t, u] o.type (#[s, x].map a.eval)) ?_
        have := does_appendZ (P := P) (ty := o.type) (tx := u) hu hu' hs hb hz hk H hf (H.ev s) (H.ev x) hc
        rw [show (#[s, x].map a.eval : Array Value) = #[a.eval s, a.eval x] by simp]
        exact this
      · exact (bad rfl hc).elim
    · -- clear
      rename_i x t e1 e2
      have ea : args = #[x] := by apply Array.ext'; simpa using e1
      have et : ts = #[t] := by apply Array.ext'; simpa using e2
      subst ea; subst et
      split at hc
      case h_2 => exact (bad rfl hc).elim
      rename_i e hu
      split at hc
      case h_2 => exact (bad rfl hc).elim
      rename_i k z hs hz
      split at hc
      case isFalse => exact (bad rfl hc).elim
      rename_i hk
      try rw [if_pos hk]
      refine DoesM.next (s := Builtin.clear_ #[t] o.type (#[x].map a.eval)) ?_
      have := does_clear (P := P) (ty := o.type) (f := f) hu hz hk H (H.ev x) hc
      rw [show (#[x].map a.eval : Array Value) = #[a.eval x] by simp]
      exact this
    · -- copy
      rename_i d s t u e1 e2
      have ea : args = #[d, s] := by apply Array.ext'; simpa using e1
      have et : ts = #[t, u] := by apply Array.ext'; simpa using e2
      subst ea; subst et
      split at hc
      case h_2 => exact (bad rfl hc).elim
      rename_i e hu
      split at hc
      case h_2 => exact (bad rfl hc).elim
      rename_i k hs
      split at hc
      case isFalse => exact (bad rfl hc).elim
      rename_i hk
      try rw [if_pos hk]
      refine DoesM.next (s := Builtin.copy_ #[t, u] o.type (#[d, s].map a.eval)) ?_
      have := does_copy (P := P) (ty := o.type) (tx := u) (f := f) hu hs hk H (H.ev d) (H.ev s) hc
      rw [show (#[d, s].map a.eval : Array Value) = #[a.eval d, a.eval s] by simp]
      exact this
    · exact (bad rfl hc).elim

theorem cNil_no {ptr : Bool} {op : BinOp} {x y : Operand} {f : Nat} {ρ : AO → AV} (hc : (evA (cNil ptr op x y) f ρ hp).c) : False := by
  unfold cNil at hc
  split at hc
  · cases op <;> exact hc
  · exact hc

theorem evA_sound (o : Oper) {f : Nat} (H : RelE c A μ fr tm hp n a w) (hf : fr f) (hc : (evA (cOp P o.op o.type) f (evO tm) hp).c) :
    DoesN P c fr tm hp n a w f (execOp a.eval o) (evA (cOp P o.op o.type) f (evO tm) hp) := by
  obtain ⟨dst, op, ty, pos, after, guard⟩ := o
  simp only at hc ⊢
  have bad : ∀ {op'}, op' = AOp.bad → (evA op' f (evO tm) hp).c → False := by rintro _ rfl h; exact h
  cases op with
  | move x => exact ⟨_, w, A, μ, .inl rfl, H.free fun b h => h.1, H.ev x⟩
  | assign x => exact ⟨_, w, A, μ, .inl rfl, H.free fun b h => h.1, H.ev x⟩
  | pick cc x y =>
    simp only [cOp, evA] at hc ⊢
    split at hc
    case h_2 => exact hc.elim
    rename_i t ht
    obtain ⟨cv, h1, h2⟩ := does_pick (P := P) (w := w) ht (H.ev cc) (H.ev x) (H.ev y)
    exact ⟨cv, w, A, μ, .inl h1, H.free fun b h => h.1, h2⟩
  | alloc t =>
    simp only [cOp] at hc ⊢
    cases hz : zeroOf P t with
    | none => simp only [hz] at hc; exact (bad rfl hc).elim
    | some z =>
      simp only [hz] at hc ⊢
      obtain ⟨zv, h1, h2⟩ := run_zero (w := w) hz
      refine DoesM.next (s := Instr.alloc t true (.tuple #[])) (does_box (X := .c z) (x := zv) (T := t) H hf (by show RV w A z μ zv; rw [h2]; exact rv_const zv) hc _ ?_)
      simp only [Instr.alloc, Sem.run_bind, h1, Result.andThen_ok, newVar, newRow_run, Sem.run_pure]
  | box t x =>
    exact DoesM.next (does_box (T := t) H hf (H.ev x) hc _ (by simp only [Instr.box, Sem.run_bind, newVar, newRow_run, Result.andThen_ok, Sem.run_pure]))
  | build t parts =>
    simp only [cOp] at hc ⊢
    split at hc
    · rename_i fs z hu hz
      try simp only [hu, hz] at hc ⊢
      split at hc
      case h_2 => exact (bad rfl hc).elim
      rename_i ps hps
      split at hc
      case isFalse => exact (bad rfl hc).elim
      rename_i hall
      try simp only [hps, hall, ↓reduceIte]
      refine Val.next H (does_build_struct hu hz hps ?_ H hc) rfl rfl
      intro g hg
      have := (List.all_eq_true.1 hall) g hg
      exact Option.isSome_iff_exists.1 this
    · rename_i N e z hu hz
      try simp only [hu, hz] at hc ⊢
      split at hc
      case h_2 => exact (bad rfl hc).elim
      rename_i s hs
      try simp only [hs]
      exact Val.next H (does_build_array hu hz hs H hc) rfl rfl
    · exact (bad rfl hc).elim
  | buildSlice t N parts =>
    simp only [cOp] at hc ⊢
    split at hc
    case h_2 => exact (bad rfl hc).elim
    rename_i e hu
    try simp only [hu]
    split at hc
    case h_2 => exact (bad rfl hc).elim
    rename_i k z hs hz
    split at hc
    case isFalse => exact (bad rfl hc).elim
    rename_i hk
    try simp only [hs, hz, hk, and_self, ↓reduceIte]
    try rw [if_pos hk]
    exact DoesM.next (does_lit (f := f) hu hs hz hk H hc)
  | load t x =>
    simp only [cOp] at hc ⊢
    split at hc
    case h_2 => exact (bad rfl hc).elim
    rename_i d s hu hs
    split at hc
    case isFalse => exact (bad rfl hc).elim
    rename_i h0
    try simp only [hu, hs, h0, ↓reduceIte]
    refine Val.next H (does_load hu hs H x f hc) ?_ ?_
    · simp only [evA]; repeat' split
      all_goals rfl
    · simp only [evA]; repeat' split
      all_goals rfl
  | store t x y =>
    simp only [cOp] at hc ⊢
    split at hc
    case h_2 => exact (bad rfl hc).elim
    rename_i s hs
    split at hc
    case isFalse => exact (bad rfl hc).elim
    rename_i h0
    try simp only [hs, h0, ↓reduceIte]
    obtain ⟨w', A', μ', h1, h2⟩ := does_store hs H hc
    refine ⟨undef, w', A', μ', .inr ⟨by simp only [execOp, Sem.run_bind, h1, Result.andThen_ok, Sem.run_pure], rfl⟩, h2.free fun b h => h.1, ?_⟩
    have : (evA (.store s (cO x) (cO y)) f (evO tm) hp).v = .unk := by
      simp only [evA]; repeat' split
      all_goals rfl
    rw [this]; trivial
  | nilCheck x =>
    have hx := H.ev x
    simp only [cOp, evA] at hc ⊢
    split at hc
    · rename_i b o e
      rw [e] at hx
      obtain ⟨hd, h1, h2, h3⟩ := hx
      exact ⟨a.eval x, w, A, μ, .inl (by simp [execOp, h3]), H.free fun b h => h.1, hd, h1, h2, h3⟩
    · rename_i b i o e
      rw [e] at hx
      obtain ⟨hd, h1, h2, h3⟩ := hx
      exact ⟨a.eval x, w, A, μ, .inl (by simp [execOp, h3]), H.free fun b h => h.1, hd, h1, h2, h3⟩
    · rename_i y o e
      rw [e] at hx
      obtain ⟨blk, oo, v, h1, h2⟩ := hx
      exact ⟨a.eval x, w, A, μ, .inl (by simp [execOp, h1]), H.free fun b h => h.1, blk, oo, v, h1, h2⟩
    · rename_i g caps e
      rw [e] at hx
      obtain ⟨vs, h1, h2⟩ := hx
      exact ⟨a.eval x, w, A, μ, .inl (by simp [execOp, h1]), H.free fun b h => h.1, vs, h1, h2⟩
    · exact hc.elim
  | binOp op t x y yt =>
    simp only [cOp] at hc ⊢
    split at hc
    · split at hc
      · rename_i fs hu ks hT
        obtain ⟨cv, h1, h2⟩ := does_eqs (P := P) (ne := false) hT .eql rfl H hc
        have hp0 : (evA (.eqs ks false (cO x) (cO y)) f (evO tm) hp).rm = none ∧ (evA (.eqs ks false (cO x) (cO y)) f (evO tm) hp).ad = none := by
          simp only [evA]; repeat' split
          all_goals exact ⟨rfl, rfl⟩
        exact Val.next H ⟨cv, h1, h2⟩ hp0.1 hp0.2
      · rename_i fs hu ks hT
        obtain ⟨cv, h1, h2⟩ := does_eqs (P := P) (ne := true) hT .neq rfl H hc
        have hp0 : (evA (.eqs ks true (cO x) (cO y)) f (evO tm) hp).rm = none ∧ (evA (.eqs ks true (cO x) (cO y)) f (evO tm) hp).ad = none := by
          simp only [evA]; repeat' split
          all_goals exact ⟨rfl, rfl⟩
        exact Val.next H ⟨cv, h1, h2⟩ hp0.1 hp0.2
      · exact (bad rfl hc).elim
    · rename_i hu
      have hg : (eqGuard op t x y (a.eval x) (a.eval y)).run P w = .ok () w := by
        have hx := H.ev x
        have hy := H.ev y
        simp only [evA, binBA] at hc
        split at hc
        · rename_i p q e1 e2
          rw [e1] at hx; rw [e2] at hy
          obtain ⟨hx, _⟩ := hx
          obtain ⟨hy, _⟩ := hy
          cases op <;> simp [eqGuard, hx, hy]
        · exact hc.elim
      obtain ⟨cv, h1, h2⟩ := does_binB (P := P) (w := w) op t hu (H.ev x) (H.ev y) hc
      refine Val.next (s := do eqGuard op t x y (a.eval x) (a.eval y); binOp op t (a.eval x) (a.eval y)) H ⟨cv, ?_, h2⟩ (binBA_pure _ _ _).1 (binBA_pure _ _ _).2
      rw [Sem.run_bind, hg, Result.andThen_ok]; exact h1
    · rename_i k hu
      have hg : (eqGuard op t x y (a.eval x) (a.eval y)).run P w = .ok () w := by
        have hx := H.ev x
        have hy := H.ev y
        simp only [evA, binA] at hc
        split at hc
        · rename_i k p k' q e1 e2
          rw [e1] at hx; rw [e2] at hy
          obtain ⟨hx, _⟩ := hx
          obtain ⟨hy, _⟩ := hy
          cases op <;> simp [eqGuard, hx, hy]
        · rename_i p q e1 e2
          rw [e1] at hx; rw [e2] at hy
          obtain ⟨hx, _⟩ := hx
          obtain ⟨hy, _⟩ := hy
          cases op <;> simp [eqGuard, hx, hy]
        · exact hc.elim
      obtain ⟨cv, h1, h2⟩ := does_bin (P := P) (w := w) op t (H.ev x) (H.ev y) hc
      refine Val.next (s := do eqGuard op t x y (a.eval x) (a.eval y); binOp op t (a.eval x) (a.eval y)) H ⟨cv, ?_, h2⟩ (binA_pure _ _ _).1 (binA_pure _ _ _).2
      rw [Sem.run_bind, hg, Result.andThen_ok]; exact h1
    · rename_i hu
      have hg : (eqGuard op t x y (a.eval x) (a.eval y)).run P w = .ok () w := by
        have hx := H.ev x
        have hy := H.ev y
        simp only [evA, binA] at hc
        split at hc
        · rename_i k p k' q e1 e2
          rw [e1] at hx; rw [e2] at hy
          obtain ⟨hx, _⟩ := hx
          obtain ⟨hy, _⟩ := hy
          cases op <;> simp [eqGuard, hx, hy]
        · rename_i p q e1 e2
          rw [e1] at hx; rw [e2] at hy
          obtain ⟨hx, _⟩ := hx
          obtain ⟨hy, _⟩ := hy
          cases op <;> simp [eqGuard, hx, hy]
        · exact hc.elim
      obtain ⟨cv, h1, h2⟩ := does_bin (P := P) (w := w) op t (H.ev x) (H.ev y) hc
      refine Val.next (s := do eqGuard op t x y (a.eval x) (a.eval y); binOp op t (a.eval x) (a.eval y)) H ⟨cv, ?_, h2⟩ (binA_pure _ _ _).1 (binA_pure _ _ _).2
      rw [Sem.run_bind, hg, Result.andThen_ok]; exact h1
    · exact (cNil_no hc).elim
    · exact (cNil_no hc).elim
    · exact (bad rfl hc).elim
  | unOp op t x => exact Val.next H (does_un op (H.ev x) hc) (unA_pure _ _).1 (unA_pure _ _).2
  | convert s d x =>
    simp only [cOp] at hc ⊢
    split at hc
    · rename_i k0 k hs hd
      refine Val.next H (does_convI hs hd (H.ev x) hc) ?_ ?_ <;> (simp only [evA]; split <;> rfl)
    · rename_i hs hd
      refine Val.next H (does_convS hs hd (H.ev x) hc) ?_ ?_ <;> (simp only [evA]; split <;> rfl)
    · rename_i e hs hd
      split at hc
      case h_2 => exact (bad rfl hc).elim
      rename_i he
      refine Val.next H (does_convBS hs he hd H (H.ev x) hc) ?_ ?_
      · simp only [evA]; repeat' split
        all_goals rfl
      · simp only [evA]; repeat' split
        all_goals rfl
    · rename_i e hs hd
      split at hc
      case h_2 => exact (bad rfl hc).elim
      rename_i he
      exact DoesM.next (does_convSB hs hd he H (H.ev x) hc)
    · exact (bad rfl hc).elim
  | makeFunc fn first captured =>
    cases fn with
    | func g =>
      simp only [cOp] at hc ⊢
      split at hc
      case isFalse => exact (bad rfl hc).elim
      rename_i hz
      have hf0 : first = #[] := Array.eq_empty_of_size_eq_zero hz
      subst hf0
      try rw [if_pos hz]
      exact Val.next H (does_mkf (f := f) H) rfl rfl
    | _ => exact (bad rfl hc).elim
  | makeSlice t l cc =>
    simp only [cOp] at hc ⊢
    split at hc
    case h_2 => exact (bad rfl hc).elim
    rename_i e hu
    split at hc
    case h_2 => exact (bad rfl hc).elim
    rename_i k b z hs hb hz
    split at hc
    case isFalse => exact (bad rfl hc).elim
    rename_i hk
    try rw [if_pos hk]
    exact DoesM.next (does_mks hu hs hb hz hk H hf (H.ev l) (H.ev cc) hc)
  | slice t x lo hi mx =>
    simp only [cOp] at hc ⊢
    split at hc
    · rename_i hu
      split at hc
      case isFalse => exact (bad rfl hc).elim
      rename_i hm
      have hm0 : mx = none := by simpa using hm
      subst hm0
      try rw [if_pos hm]
      refine Val.next H (does_sliceS hu H hc) ?_ ?_
      · simp only [evA]; repeat' split
        all_goals rfl
      · simp only [evA]; repeat' split
        all_goals rfl
    · rename_i e hu
      split at hc
      case h_2 => exact (bad rfl hc).elim
      rename_i k hs
      split at hc
      case isFalse => exact (bad rfl hc).elim
      rename_i hk
      try rw [if_pos hk]
      simp only [evA] at hc ⊢
      split at hc
      · rename_i e1 e2 e3
        exact Val.next H (does_slice hu hs H (optI_of H e1 none (.inl ⟨rfl, rfl⟩)) (optI_of H e2 none (.inl ⟨rfl, rfl⟩)) (optI_of H e3 none (.inl ⟨rfl, rfl⟩)) (H.ev x) hc) (sliceA_pure _ _ _ _ _ _).1 (sliceA_pure _ _ _ _ _ _).2
      · rename_i e1 e2 e3
        exact Val.next H (does_slice hu hs H (optI_of H e1 (some _) (.inr ⟨_, _, rfl, rfl⟩)) (optI_of H e2 none (.inl ⟨rfl, rfl⟩)) (optI_of H e3 none (.inl ⟨rfl, rfl⟩)) (H.ev x) hc) (sliceA_pure _ _ _ _ _ _).1 (sliceA_pure _ _ _ _ _ _).2
      · rename_i e1 e2 e3
        exact DoesM.next (does_reslice hu hs H hf (optI_of H e1 none (.inl ⟨rfl, rfl⟩)) (optI_of H e2 (some _) (.inr ⟨_, _, rfl, rfl⟩)) (optI_of H e3 none (.inl ⟨rfl, rfl⟩)) (H.ev x) hc)
      · rename_i e1 e2 e3
        exact Val.next H (does_slice hu hs H (optI_of H e1 (some _) (.inr ⟨_, _, rfl, rfl⟩)) (optI_of H e2 (some _) (.inr ⟨_, _, rfl, rfl⟩)) (optI_of H e3 none (.inl ⟨rfl, rfl⟩)) (H.ev x) hc) (sliceA_pure _ _ _ _ _ _).1 (sliceA_pure _ _ _ _ _ _).2
      · rename_i e1 e2 e3
        exact Val.next H (does_slice hu hs H (optI_of H e1 none (.inl ⟨rfl, rfl⟩)) (optI_of H e2 (some _) (.inr ⟨_, _, rfl, rfl⟩)) (optI_of H e3 (some _) (.inr ⟨_, _, rfl, rfl⟩)) (H.ev x) hc) (sliceA_pure _ _ _ _ _ _).1 (sliceA_pure _ _ _ _ _ _).2
      · rename_i e1 e2 e3
        exact Val.next H (does_slice hu hs H (optI_of H e1 (some _) (.inr ⟨_, _, rfl, rfl⟩)) (optI_of H e2 (some _) (.inr ⟨_, _, rfl, rfl⟩)) (optI_of H e3 (some _) (.inr ⟨_, _, rfl, rfl⟩)) (H.ev x) hc) (sliceA_pure _ _ _ _ _ _).1 (sliceA_pure _ _ _ _ _ _).2
      · exact hc.elim
    · rename_i N e hu
      split at hc
      case h_2 => exact (bad rfl hc).elim
      rename_i k hs
      split at hc
      case isFalse => exact (bad rfl hc).elim
      rename_i hk
      have hm0 : mx = none := by simp at hk; simpa using hk.1
      subst hm0
      try rw [if_pos hk]
      refine Val.next H (does_sliceA hu hs H hc) ?_ ?_
      · simp only [evA]; repeat' split
        all_goals rfl
      · simp only [evA]; repeat' split
        all_goals rfl
    · exact (bad rfl hc).elim
  | fieldAddr s x i =>
    simp only [cOp] at hc ⊢
    split at hc
    case h_2 => exact (bad rfl hc).elim
    rename_i fs hu
    split at hc
    case h_2 => exact (bad rfl hc).elim
    rename_i fd hi
    split at hc
    case h_2 => exact (bad rfl hc).elim
    rename_i k hs
    split at hc
    case isFalse => exact (bad rfl hc).elim
    rename_i hk
    try rw [if_pos hk]
    refine Val.next H (does_faddr hu hi hs hk (H.ev x) hc) ?_ ?_
    · simp only [evA]; repeat' split
      all_goals rfl
    · simp only [evA]; repeat' split
      all_goals rfl
  | field s x i =>
    simp only [cOp] at hc ⊢
    split at hc
    case h_2 => exact (bad rfl hc).elim
    rename_i fs hu
    split at hc
    case h_2 => exact (bad rfl hc).elim
    rename_i fd hi
    split at hc
    case h_2 => exact (bad rfl hc).elim
    rename_i d k hd hs
    split at hc
    case isFalse => exact (bad rfl hc).elim
    rename_i hk
    try rw [if_pos hk]
    exact Val.next H (does_field hu hi hd hs (H.ev x) hc) rfl rfl
  | indexAddr t x i =>
    simp only [cOp] at hc ⊢
    split at hc
    · rename_i e hu
      split at hc
      case h_2 => exact (bad rfl hc).elim
      rename_i k hs
      split at hc
      case isFalse => exact (bad rfl hc).elim
      rename_i hk
      try rw [if_pos hk]
      refine Val.next H (does_iaddr hu hs H (H.ev x) (H.ev i) hc) ?_ ?_
      · simp only [evA]; repeat' split
        all_goals rfl
      · simp only [evA]; repeat' split
        all_goals rfl
    · rename_i N e hu
      split at hc
      case h_2 => exact (bad rfl hc).elim
      rename_i k hs
      split at hc
      case isFalse => exact (bad rfl hc).elim
      rename_i hk
      try rw [if_pos hk]
      refine Val.next H (does_iaddrA hu hs (H.ev x) (H.ev i) hc) ?_ ?_
      · simp only [evA]; repeat' split
        all_goals rfl
      · simp only [evA]; repeat' split
        all_goals rfl
    · exact (bad rfl hc).elim
  | index t x i =>
    simp only [cOp] at hc ⊢
    split at hc
    · rename_i hu
      refine Val.next H (does_indexS hu (H.ev x) (H.ev i) hc) ?_ ?_
      · simp only [evA]; repeat' split
        all_goals rfl
      · simp only [evA]; repeat' split
        all_goals rfl
    · rename_i N e hu
      split at hc
      case h_2 => exact (bad rfl hc).elim
      rename_i d k hd hs
      split at hc
      case isFalse => exact (bad rfl hc).elim
      rename_i hk
      try rw [if_pos hk]
      refine Val.next H (does_indexA hu hd hs (H.ev x) (H.ev i) hc) ?_ ?_
      · simp only [evA]; repeat' split
        all_goals rfl
      · simp only [evA]; repeat' split
        all_goals rfl
    · exact (bad rfl hc).elim
  | extract x i =>
    refine Val.next H (does_ext (H.ev x) hc) ?_ ?_ <;> (simp only [cOp, evA]; split <;> rfl)
  | call cc => exact evA_call rfl H hf hc
  | _ => exact (bad rfl hc).elim
end
end Go.Am
