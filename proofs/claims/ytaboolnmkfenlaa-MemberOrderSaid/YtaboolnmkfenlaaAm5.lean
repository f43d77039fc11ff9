/- What one operation of the model does is what the compact operation says: computing. -/
import Derived.Test.YtaboolnmkfenlaaAm4
namespace Go.Am
set_option linter.unusedVariables false
set_option linter.unusedSimpArgs false

theorem wrap_inK (k : IntKind) (n : Int) : inK k (k.wrap n) := by
  unfold inK IntKind.wrap IntKind.min IntKind.max
  cases k <;> simp [IntKind.bits, IntKind.signed] <;> (try split) <;> omega

theorem tmod_inK {k : IntKind} {x y : Int} (hx : inK k x) (hy : inK k y) (h0 : y ≠ 0) : inK k (x.tmod y) := by
  have hb : x.tmod y ≤ x ∧ 0 ≤ x.tmod y ∨ x ≤ x.tmod y ∧ x.tmod y ≤ 0 := by
    match x, y with
    | .ofNat m, .ofNat n => have := Nat.mod_le m n; left; simp only [Int.tmod, Int.ofNat_eq_natCast]; omega
    | .ofNat m, .negSucc n => have := Nat.mod_le m (n + 1); left; simp only [Int.tmod, Int.ofNat_eq_natCast, Nat.succ_eq_add_one]; omega
    | .negSucc m, .ofNat n => have := Nat.mod_le (m + 1) n; right; simp only [Int.tmod]; simp only [Int.ofNat_eq_natCast, Nat.succ_eq_add_one]; omega
    | .negSucc m, .negSucc n => have := Nat.mod_le (m + 1) (n + 1); right; simp only [Int.tmod]; simp only [Int.ofNat_eq_natCast, Nat.succ_eq_add_one]; omega
  have hmin : k.min ≤ 0 := by cases k <;> simp [IntKind.min, IntKind.bits, IntKind.signed]
  have hmax : 0 ≤ k.max := by cases k <;> simp [IntKind.max, IntKind.bits, IntKind.signed]
  obtain ⟨hx1, hx2⟩ := hx
  unfold inK
  omega

theorem fdiv_inK {k : IntKind} {x : Int} (hx : inK k x) (n : Nat) : inK k (x.fdiv (2 ^ n)) := by
  have hp : (0 : Int) < 2 ^ n := Int.pow_pos (by omega)
  have h1 : x.fdiv (2 ^ n) = x / 2 ^ n := Int.fdiv_eq_ediv_of_nonneg _ (Int.le_of_lt hp)
  have hmin : k.min ≤ 0 := by cases k <;> simp [IntKind.min, IntKind.bits, IntKind.signed]
  have hmax : 0 ≤ k.max := by cases k <;> simp [IntKind.max, IntKind.bits, IntKind.signed]
  have hp1 : (1 : Int) ≤ 2 ^ n := hp
  obtain ⟨hx1, hx2⟩ := hx
  rw [h1]
  unfold inK
  rcases Int.le_total 0 x with h | h
  · have := Int.ediv_nonneg h (Int.le_of_lt hp)
    have := Int.ediv_le_self (2 ^ n) h
    omega
  · have h2 : x / 2 ^ n ≤ 0 := by
      have := Int.ediv_le_ediv hp h
      simpa using this
    have h3 : x ≤ x / 2 ^ n := by
      rw [Int.le_ediv_iff_mul_le hp]
      have : x * 2 ^ n ≤ x * 1 := Int.mul_le_mul_of_nonpos_left h hp1
      omega
    omega

theorem inK_nat {n : Nat} (h : n ≤ maxLen) : inK .i64 (n : Int) := by
  unfold inK; simp [IntKind.min, IntKind.max, IntKind.bits, IntKind.signed]; unfold maxLen at h; omega
theorem inK_byte (b : UInt8) : inK .u8 (b.toNat : Int) := by
  unfold inK; simp [IntKind.min, IntKind.max, IntKind.bits, IntKind.signed]; have := b.toNat_lt; omega

section
variable {P : Program} {c : Ctx} {A : Nat → Prop} {μ : Mu} {fr : Nat → Prop} {tm : Nat → AV} {hp : Hp} {n : Nat} {a : Act} {w : World}

theorem rv_int {k : IntKind} {n : Int} (h : inK k n) : RV w A (.val (.int k n)) μ (.int k n) := ⟨rfl, h⟩
theorem rv_bool (b : Bool) : RV w A (.val (.bool b)) μ (.bool b) := ⟨rfl, trivial⟩

/-- A computation that touches no memory. -/
def Val (P : Program) (w : World) (A : Nat → Prop) (μ : Mu) (s : Sem Value) (v : AV) : Prop := ∃ cv, s.run P w = .ok cv w ∧ RV w A v μ cv

theorem does_bin (op : BinOp) (T : TypeId) {X Y : AV} {x y : Value} (hx : RV w A X μ x) (hy : RV w A Y μ y) (hc : (binA op X Y).c) :
    Val P w A μ (binOp op T x y) (binA op X Y).v := by
  unfold Val
  unfold binA at hc ⊢
  split at hc
  · rename_i k a' k' b'
    obtain ⟨rfl, hx⟩ := hx
    obtain ⟨rfl, hy⟩ := hy
    simp only [plainV] at hx hy
    cases op <;> simp only [] at hc ⊢
    all_goals try (obtain rfl := hc)
    case add => exact ⟨_, by simp [binOp, Op.intArith], rv_int (wrap_inK _ _)⟩
    case sub => exact ⟨_, by simp [binOp, Op.intArith], rv_int (wrap_inK _ _)⟩
    case mul => exact ⟨_, by simp [binOp, Op.intArith], rv_int (wrap_inK _ _)⟩
    case quo => obtain ⟨rfl, h0⟩ := hc; exact ⟨_, by simp [binOp, Op.intDiv, h0], rv_int (wrap_inK _ _)⟩
    case rem => obtain ⟨rfl, h0⟩ := hc; exact ⟨_, by simp [binOp, Op.intDiv, h0], rv_int (tmod_inK hx hy h0)⟩
    case eql => exact ⟨_, by simp [binOp, Op.intCmp], rv_bool _⟩
    case neq => exact ⟨_, by simp [binOp, Op.intCmp], rv_bool _⟩
    case lss => exact ⟨_, by simp [binOp, Op.intCmp], rv_bool _⟩
    case leq => exact ⟨_, by simp [binOp, Op.intCmp], rv_bool _⟩
    case gtr => exact ⟨_, by simp [binOp, Op.intCmp], rv_bool _⟩
    case geq => exact ⟨_, by simp [binOp, Op.intCmp], rv_bool _⟩
    case and => exact ⟨_, by simp [binOp, Op.intBits], rv_int (wrap_inK _ _)⟩
    case or => exact ⟨_, by simp [binOp, Op.intBits], rv_int (wrap_inK _ _)⟩
    case xor => exact ⟨_, by simp [binOp, Op.intBits], rv_int (wrap_inK _ _)⟩
    case andNot => exact ⟨_, by simp [binOp, Op.intBits], rv_int (wrap_inK _ _)⟩
    case shl =>
      have : ¬ b' < 0 := by omega
      exact ⟨_, by simp [binOp, Op.shift, this], rv_int (wrap_inK _ _)⟩
    case shr =>
      have : ¬ b' < 0 := by omega
      exact ⟨_, by simp [binOp, Op.shift, this], rv_int (fdiv_inK hx _)⟩
  · rename_i a' b'
    obtain ⟨rfl, hx⟩ := hx
    obtain ⟨rfl, hy⟩ := hy
    cases op <;> simp only [Out.bad] at hc ⊢
    case add =>
      have h1 : ¬ ((a'.size + b'.size : Nat) : Int) > IntKind.i64.max := by
        have : a'.size + b'.size ≤ maxLen := hc
        unfold maxLen at this
        simp [IntKind.max, IntKind.bits, IntKind.signed]; omega
      refine ⟨.string (a' ++ b'), ?_, rfl, ?_⟩
      · simp only [binOp, Op.stringOp, h1, ↓reduceIte, Sem.run_pure]
      · simp only [plainV, ByteArray.size_append]; exact hc
    all_goals exact ⟨_, by simp [binOp, Op.stringOp], rv_bool _⟩
  · simp [Out.bad] at hc

theorem run_equalIn_bool {T : TypeId} (hT : P.underlying T = some .bool) (d : Nat) (x y : Bool) : (Op.equalIn (d + 1) T (.bool x) (.bool y)).run P w = .ok (x == y) w := by
  unfold Op.equalIn
  rw [Sem.run_bind, run_underlying hT]
  rfl

theorem does_binB (op : BinOp) (T : TypeId) (hT : P.underlying T = some .bool) {X Y : AV} {x y : Value} (hx : RV w A X μ x) (hy : RV w A Y μ y) (hc : (binBA op X Y).c) :
    Val P w A μ (binOp op T x y) (binBA op X Y).v := by
  unfold Val
  unfold binBA at hc ⊢
  split at hc
  · rename_i a' b'
    obtain ⟨rfl, hx⟩ := hx
    obtain ⟨rfl, hy⟩ := hy
    have e := run_equalIn_bool (P := P) (w := w) hT 9999 a' b'
    have e' : (Op.equal T (.bool a') (.bool b')).run P w = .ok (a' == b') w := e
    cases op <;> simp only [Out.bad] at hc ⊢
    · exact ⟨_, by simp only [binOp, Sem.run_bind, e', Result.andThen_ok, Sem.run_pure], rv_bool _⟩
    · exact ⟨_, by simp only [binOp, Sem.run_bind, e', Result.andThen_ok, Sem.run_pure], rv_bool _⟩
  · simp [Out.bad] at hc

theorem does_un (op : UnOp) {X : AV} {x : Value} (hx : RV w A X μ x) (hc : (unA op X).c) : Val P w A μ (Op.unary op x) (unA op X).v := by
  unfold Val
  unfold unA at hc ⊢
  split at hc
  · obtain ⟨rfl, hx⟩ := hx
    exact ⟨_, by simp [Op.unary], rv_bool _⟩
  · obtain ⟨rfl, hx⟩ := hx
    exact ⟨_, by simp [Op.unary, Op.intArith], rv_int (wrap_inK _ _)⟩
  · simp [Out.bad] at hc

theorem does_pick {C X Y : AV} {cc x y : Value} {t : Bool} (hC : C = .val (.bool t)) (hcc : RV w A C μ cc) (hx : RV w A X μ x) (hy : RV w A Y μ y) :
    ∃ cv, (do pure (.value (if ← asBool cc then x else y)) : Sem Next).run P w = .ok (.value cv) w ∧ RV w A (pickV t X Y) μ cv := by
  subst hC
  obtain ⟨rfl, _⟩ := hcc
  refine ⟨if t then x else y, by simp [asBool], ?_⟩
  unfold pickV
  split
  · obtain ⟨rfl, _⟩ := hx
    obtain ⟨rfl, _⟩ := hy
    cases t <;> exact rv_bool _
  · cases t <;> assumption

theorem does_len {T e ty : TypeId} (H : RelE c A μ fr tm hp n a w) {X : AV} {x : Value} (hT : P.underlying T = some (.slice e)) (hx : RV w A X μ x) (hc : (lenA hp X).c) :
    Val P w A μ (Builtin.len_ #[T] ty #[x]) (lenA hp X).v := by
  unfold Val
  unfold lenA at hc ⊢
  split at hc
  · rename_i k es full
    rcases hx with ⟨rfl, a0, rfl⟩ | ⟨blk, off, cap, vs, rfl, _, h1, h2, _⟩
    · exact ⟨_, by simp [Builtin.len_, run_underlying hT, goInt], rv_int (inK_nat (by simp))⟩
    · exact ⟨_, by simp [Builtin.len_, run_underlying hT, goInt], rv_int (inK_nat (by omega))⟩
  · rename_i b
    split at hc
    · rename_i k es hb
      simp only [hb]
      obtain ⟨hd, h1, h2, h3⟩ := H.vec hb
      obtain ⟨hd', e1, rfl⟩ := hx
      rw [h1] at e1; cases e1
      rcases h3 with ⟨rfl, a', h3⟩ | ⟨h3, h4, h5, h7, _⟩
      · exact ⟨_, by simp [Hd.val, h3, Builtin.len_, run_underlying hT, goInt], rv_int (inK_nat (by simp))⟩
      · exact ⟨_, by simp [Hd.val, h3, h4, Builtin.len_, run_underlying hT, goInt], rv_int (inK_nat (by omega))⟩
    · rename_i k es len cap hb
      simp only [hb]
      obtain ⟨hd, h1, h2, h3, h4, h5, h6, h7, h8, _⟩ := H.row hb
      obtain ⟨hd', e1, rfl⟩ := hx
      rw [h1] at e1; cases e1
      exact ⟨_, by simp [Hd.val, h3, h4, Builtin.len_, run_underlying hT, goInt], rv_int (inK_nat (by omega))⟩
    · simp [Out.bad] at hc
  · obtain ⟨hd, cap, o, _, _, _, _, _, rfl⟩ := hx
    exact ⟨_, by simp [Builtin.len_, run_underlying hT, goInt], rv_int (inK_nat hc)⟩
  · obtain ⟨hd, cap, o, _, _, _, _, rfl⟩ := hx
    exact ⟨_, by simp [Builtin.len_, run_underlying hT, goInt], rv_int (inK_nat hc)⟩
  · simp [Out.bad] at hc

theorem does_lenS {T ty : TypeId} {f : Nat} {ρ : AO → AV} {X : AO} {x : Value} (hT : P.underlying T = some .string) (hx : RV w A (ρ X) μ x) (hc : (evA (.lenS X) f ρ hp).c) :
    Val P w A μ (Builtin.len_ #[T] ty #[x]) (evA (.lenS X) f ρ hp).v := by
  simp only [evA] at hc ⊢
  generalize ρ X = Y at *
  cases Y <;> simp only [Out.bad] at hc
  obtain ⟨rfl, hps⟩ := hx
  cases x <;> simp only [] at hc
  exact ⟨_, by simp [Builtin.len_, run_underlying hT, goInt], rv_int (inK_nat hps)⟩

theorem does_cap {T e ty : TypeId} {f : Nat} {ρ : AO → AV} {X : AO} {x : Value} (H : RelE c A μ fr tm hp n a w) (hT : P.underlying T = some (.slice e)) (hx : RV w A (ρ X) μ x) (hc : (evA (.cap X) f ρ hp).c) :
    Val P w A μ (Builtin.cap_ #[T] ty #[x]) (evA (.cap X) f ρ hp).v := by
  simp only [evA] at hc ⊢
  split at hc
  · rename_i k es heq
    rw [heq] at hx
    rcases hx with ⟨rfl, a0, rfl⟩ | ⟨blk, off, cap, vs, rfl, _, h1, h2, h3, _⟩
    · exact ⟨_, by simp [Builtin.cap_, run_underlying hT, goInt], rv_int (inK_nat (by simp))⟩
    · have := h3 rfl
      subst this
      exact ⟨_, by simp [Builtin.cap_, run_underlying hT, goInt], rv_int (inK_nat (by omega))⟩
  · rename_i b heq
    rw [heq] at hx
    split at hc
    · rename_i k es len cap hb
      simp only [hb]
      obtain ⟨hd, h1, h2, h3, h4, h5, h6, h7, h8, _⟩ := H.row hb
      obtain ⟨hd', e1, rfl⟩ := hx
      rw [h1] at e1; cases e1
      exact ⟨_, by simp [Hd.val, h3, h5, Builtin.cap_, run_underlying hT, goInt], rv_int (inK_nat (by omega))⟩
    · exact hc.elim
  · exact hc.elim

theorem foldI_min {k : IntKind} : ∀ (Xs : List AV) (xs : List Value) (a m : Int), inK k a → RVL w A Xs μ xs → foldI minI k a Xs = some m →
    (xs.foldlM Builtin.min2 (.int k a)).run P w = .ok (.int k m) w ∧ inK k m
  | [], xs, a, m, ha, h, e => by
    simp [RVL] at h; subst h
    simp [foldI] at e; subst e
    exact ⟨rfl, ha⟩
  | X :: Xs, xs, a, m, ha, ⟨v, vs, h0, h1, h2⟩, e => by
    subst h0
    unfold foldI at e
    split at e
    · rename_i h; cases h
    · rename_i a' a2 l' k' b r heq
      cases heq
      split at e
      · rename_i hk; subst hk
        obtain ⟨rfl, hb⟩ := h1
        have hm : inK k' (minI a' b) := by unfold minI; split <;> assumption
        have := foldI_min Xs vs (minI a' b) m hm h2 e
        refine ⟨?_, this.2⟩
        rw [List.foldlM_cons, Sem.run_bind]
        have e1 : (Builtin.min2 (.int k' a') (.int k' b)).run P w = .ok (.int k' (minI a' b)) w := by simp [Builtin.min2, minI]
        rw [e1]; exact this.1
      · cases e
    · cases e
theorem foldI_max {k : IntKind} : ∀ (Xs : List AV) (xs : List Value) (a m : Int), inK k a → RVL w A Xs μ xs → foldI maxI k a Xs = some m →
    (xs.foldlM Builtin.max2 (.int k a)).run P w = .ok (.int k m) w ∧ inK k m
  | [], xs, a, m, ha, h, e => by
    simp [RVL] at h; subst h
    simp [foldI] at e; subst e
    exact ⟨rfl, ha⟩
  | X :: Xs, xs, a, m, ha, ⟨v, vs, h0, h1, h2⟩, e => by
    subst h0
    unfold foldI at e
    split at e
    · rename_i h; cases h
    · rename_i a' a2 l' k' b r heq
      cases heq
      split at e
      · rename_i hk; subst hk
        obtain ⟨rfl, hb⟩ := h1
        have hm : inK k' (maxI a' b) := by unfold maxI; split <;> assumption
        have := foldI_max Xs vs (maxI a' b) m hm h2 e
        refine ⟨?_, this.2⟩
        rw [List.foldlM_cons, Sem.run_bind]
        have e1 : (Builtin.max2 (.int k' a') (.int k' b)).run P w = .ok (.int k' (maxI a' b)) w := by simp [Builtin.max2, maxI]
        rw [e1]; exact this.1
      · cases e
    · cases e

theorem does_min {ts : Array TypeId} {ty : TypeId} {Xs : List AV} {xs : List Value} (h : RVL w A Xs μ xs) (hc : (foldA minI Xs).c) :
    Val P w A μ (Builtin.min_ ts ty xs.toArray) (foldA minI Xs).v := by
  unfold foldA at hc ⊢
  split at hc
  · rename_i k a' r
    obtain ⟨v, vs, rfl, h1, h2⟩ := h
    obtain ⟨rfl, ha⟩ := h1
    split at hc
    · rename_i m hm
      have := foldI_min (P := P) r vs a' m ha h2 hm
      simp only [hm]
      exact ⟨_, by simpa [Builtin.min_] using this.1, rv_int this.2⟩
    · simp [Out.bad] at hc
  · simp [Out.bad] at hc
theorem does_max {ts : Array TypeId} {ty : TypeId} {Xs : List AV} {xs : List Value} (h : RVL w A Xs μ xs) (hc : (foldA maxI Xs).c) :
    Val P w A μ (Builtin.max_ ts ty xs.toArray) (foldA maxI Xs).v := by
  unfold foldA at hc ⊢
  split at hc
  · rename_i k a' r
    obtain ⟨v, vs, rfl, h1, h2⟩ := h
    obtain ⟨rfl, ha⟩ := h1
    split at hc
    · rename_i m hm
      have := foldI_max (P := P) r vs a' m ha h2 hm
      simp only [hm]
      exact ⟨_, by simpa [Builtin.max_] using this.1, rv_int this.2⟩
    · simp [Out.bad] at hc
  · simp [Out.bad] at hc

theorem RelE.evs (H : RelE c A μ fr tm hp n a w) (xs : List Operand) : RVL w A (xs.map fun x => evO tm (cO x)) μ (xs.map a.eval) :=
  RVL.of_get (by simp) fun i x v hx hv => by
    simp only [List.getElem?_map, Option.map_eq_some_iff] at hx hv
    obtain ⟨y, h1, rfl⟩ := hx
    obtain ⟨z, h2, rfl⟩ := hv
    rw [h1] at h2; cases h2
    exact H.ev y
end
end Go.Am
