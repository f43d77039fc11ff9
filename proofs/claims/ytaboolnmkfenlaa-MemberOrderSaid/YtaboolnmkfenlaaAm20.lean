/- The walk over compact code: rules. -/
import Derived.Test.YtaboolnmkfenlaaAm19
namespace Go.Am
set_option linter.unusedVariables false
set_option linter.unusedSimpArgs false

def cReg (P : Program) (n : Nat) (ops : Array Oper) (draw : Bool) : AC :=
  if draw then
    (if P.follows .mixedOrders && regOk (edgesOf ops) (clos (edgesOf ops) []) (aopsOf P n ops) then .dreg (aopsOf P n ops) (parOf (clos (edgesOf ops) []) (aopsOf P n ops)) else .bad)
  else .reg (aopsOf P n ops)

def cCode (P : Program) (n : Nat) : Code → AC
  | .skip => .skip
  | .region _ ops draw => cReg P n ops draw
  | .seq a b => .seq (cCode P n a) (cCode P n b)
  | .cond c x y => .cond (cO c) (cCode P n x) (cCode P n y)
  | .block id c => .block id (cCode P n c)
  | .loop c => .loop (cCode P n c)
  | .exit id => .exit id
  | .ret => .ret
  | _ => .bad

structure S3 where
  tm : Nat → AV
  hp : Hp
  nx : Nat

def Rel (k : Nat) (c : Ctx) (n : Nat) (s : S3) (a : Act) (w : World) : Prop :=
  (∀ b, k ≤ b → c.mu b = none) ∧ ∃ A μ, RelE c A μ (fun b => s.nx ≤ b) s.tm s.hp n a w

inductive X where
  | normal
  | exit (id : Nat)
  | ret

def post (k : Nat) (c : Ctx) (n : Nat) (Q : X → S3 → Prop) : Exit → Act → World → Prop
  | .normal, a, w => ∃ s, Q .normal s ∧ Rel k c n s a w
  | .exit id, a, w => ∃ s, Q (.exit id) s ∧ Rel k c n s a w
  | .ret, a, w => ∃ s, Q .ret s ∧ Rel k c n s a w
  | _, _, _ => False

def AWP (P : Program) (k n : Nat) (ac : AC) (Q : X → S3 → Prop) (s : S3) : Prop :=
  ∀ code, cCode P n code = ac → ∀ c a w, Rel k c n s a w → code.wp P (post k c n Q) a w

def thenX (K : S3 → Prop) (Q : X → S3 → Prop) : X → S3 → Prop
  | .normal, s => K s
  | e, s => Q e s
def inBlockX (id : Nat) (Q : X → S3 → Prop) : X → S3 → Prop
  | .exit id', s => if id' = id then Q .normal s else Q (.exit id') s
  | e, s => Q e s

section
variable {P : Program} {k n : Nat} {Q : X → S3 → Prop} {s : S3}

theorem cReg_inv {ops : Array Oper} {draw : Bool} {ac : AC} (h : cReg P n ops draw = ac) : ac = .bad ∨ (draw = false ∧ ac = .reg (aopsOf P n ops)) ∨
    (draw = true ∧ P.follows .mixedOrders = true ∧ regOk (edgesOf ops) (clos (edgesOf ops) []) (aopsOf P n ops) = true ∧ ac = .dreg (aopsOf P n ops) (parOf (clos (edgesOf ops) []) (aopsOf P n ops))) := by
  unfold cReg at h
  cases draw with
  | false => simp at h; exact .inr (.inl ⟨rfl, h.symm⟩)
  | true =>
    simp only [↓reduceIte] at h
    split at h
    · rename_i hh
      simp only [Bool.and_eq_true] at hh
      exact .inr (.inr ⟨rfl, hh.1, hh.2, h.symm⟩)
    · exact .inl h.symm

theorem AWP.skip (h : Q .normal s) : AWP P k n .skip Q s := by
  intro code hc c a w H
  cases code <;> simp only [cCode] at hc <;> try cases hc
  · exact wp_skip ⟨s, h, H⟩
  · rcases cReg_inv hc with h' | ⟨_, h'⟩ | ⟨_, _, _, h'⟩ <;> cases h'
theorem AWP.exit {id : Nat} (h : Q (.exit id) s) : AWP P k n (.exit id) Q s := by
  intro code hc c a w H
  cases code <;> simp only [cCode] at hc <;> try cases hc
  · rcases cReg_inv hc with h' | ⟨_, h'⟩ | ⟨_, _, _, h'⟩ <;> cases h'
  · exact wp_exit ⟨s, h, H⟩
theorem AWP.ret (h : Q .ret s) : AWP P k n .ret Q s := by
  intro code hc c a w H
  cases code <;> simp only [cCode] at hc <;> try cases hc
  · rcases cReg_inv hc with h' | ⟨_, h'⟩ | ⟨_, _, _, h'⟩ <;> cases h'
  · exact wp_ret ⟨s, h, H⟩
theorem AWP.seq {x y : AC} (h : AWP P k n x (thenX (AWP P k n y Q) Q) s) : AWP P k n (.seq x y) Q s := by
  intro code hc c a w H
  cases code <;> simp only [cCode] at hc <;> try cases hc
  · rcases cReg_inv hc with h' | ⟨_, h'⟩ | ⟨_, _, _, h'⟩ <;> cases h'
  · rename_i x' y'
    refine wp_seq (wp_mono (h x' rfl c a w H) ?_)
    intro e a' w' hq
    cases e with
    | normal =>
      obtain ⟨s', h1, h2⟩ := hq
      exact h1 y' rfl c a' w' h2
    | exit id => exact hq
    | ret => exact hq
    | _ => exact hq.elim
theorem AWP.cond {cc : AO} {x y : AC} {b : Bool} (hb : evO s.tm cc = .val (.bool b)) (hx : b = true → AWP P k n x Q s) (hy : b = false → AWP P k n y Q s) : AWP P k n (.cond cc x y) Q s := by
  intro code hc c a w H
  cases code <;> simp only [cCode] at hc <;> try cases hc
  · rcases cReg_inv hc with h' | ⟨_, h'⟩ | ⟨_, _, _, h'⟩ <;> cases h'
  · rename_i c' x' y'
    obtain ⟨h0, A, μ, hr⟩ := H
    have hv := hr.ev c'
    rw [hb] at hv
    obtain ⟨hv, _⟩ := hv
    exact wp_cond_split hv (fun e => hx e x' rfl c a w ⟨h0, A, μ, hr⟩) (fun e => hy e y' rfl c a w ⟨h0, A, μ, hr⟩)
theorem AWP.block {id : Nat} {x : AC} (h : AWP P k n x (inBlockX id Q) s) : AWP P k n (.block id x) Q s := by
  intro code hc c a w H
  cases code <;> simp only [cCode] at hc <;> try cases hc
  · rcases cReg_inv hc with h' | ⟨_, h'⟩ | ⟨_, _, _, h'⟩ <;> cases h'
  · rename_i x'
    refine wp_block (wp_mono (h x' rfl c a w H) ?_)
    intro e a' w' hq
    cases e with
    | normal => exact hq
    | exit id' =>
      obtain ⟨s', h1, h2⟩ := hq
      simp only [inBlockX] at h1
      simp only [Exit.inBlock]
      split
      · rename_i e; rw [if_pos e] at h1; exact ⟨s', h1, h2⟩
      · rename_i e; rw [if_neg e] at h1; exact ⟨s', h1, h2⟩
    | ret => exact hq
    | _ => exact hq.elim
theorem AWP.mono {x : AC} {Q' : X → S3 → Prop} (h : AWP P k n x Q s) (hq : ∀ e s, Q e s → Q' e s) : AWP P k n x Q' s := by
  intro code hc c a w H
  refine wp_mono (h code hc c a w H) ?_
  intro e a' w' h'
  cases e with
  | normal => obtain ⟨s', h1, h2⟩ := h'; exact ⟨s', hq _ _ h1, h2⟩
  | exit id' => obtain ⟨s', h1, h2⟩ := h'; exact ⟨s', hq _ _ h1, h2⟩
  | ret => obtain ⟨s', h1, h2⟩ := h'; exact ⟨s', hq _ _ h1, h2⟩
  | _ => exact h'.elim

/-- A state forgets. -/
def Weak (k n : Nat) (s s' : S3) : Prop := ∀ c a w, Rel k c n s a w → Rel k c n s' a w
theorem Weak.refl : Weak k n s s := fun _ _ _ h => h
theorem Weak.trans {s1 s2 s3 : S3} (h : Weak k n s1 s2) (h' : Weak k n s2 s3) : Weak k n s1 s3 := fun c a w H => h' c a w (h c a w H)
theorem AWP.weak {x : AC} {s' : S3} (hw : Weak k n s s') (h : AWP P k n x Q s') : AWP P k n x Q s := fun code hc c a w H => h code hc c a w (hw c a w H)

theorem wp_loopN {c : Code} {Q : Exit → Act → World → Prop} (I : Nat → Act → World → Prop) {m : Nat} {a : Act} {w : World} (h₀ : I m a w)
    (round : ∀ m a w, I m a w → c.wp P (Exit.then (fun a' w' => ∃ m', m' < m ∧ I m' a' w') Q) a w) : (Code.loop c).wp P Q a w := by
  intro b k cs
  have key : ∀ m a w, I m a w → ∃ e a' w', Q e a' w' ∧ Arrives P (lone (b.at a (.code c :: .inLoop c :: k)) cs w) b k cs e a' w' := by
    intro m
    induction m using Nat.strongRecOn with
    | _ m ih =>
      intro a w hI
      obtain ⟨e, a₁, w₁, hq, harr⟩ := round m a w hI b (.inLoop c :: k) cs
      cases e with
      | normal =>
        obtain ⟨m', hlt, hI₁⟩ := hq
        obtain ⟨e₂, a₂, w₂, hq₂, harr₂⟩ := ih m' hlt a₁ w₁ hI₁
        exact ⟨e₂, a₂, w₂, hq₂, .of_steps (Steps.trans harr (.one step_inLoop)) harr₂⟩
      | exit id => exact ⟨_, a₁, w₁, hq, .pass (x := .inLoop c) rfl (fun _ _ => .inl (by simp)) harr⟩
      | goto l => exact ⟨_, a₁, w₁, hq, .pass (x := .inLoop c) rfl (fun _ _ => .inl (by simp)) harr⟩
      | ret => exact ⟨_, a₁, w₁, hq, .pass (x := .inLoop c) rfl (fun _ _ => .inl (by simp)) harr⟩
      | panic ch => exact ⟨_, a₁, w₁, hq, .pass (x := .inLoop c) rfl (fun _ _ => .inl (by simp)) harr⟩
      | outgrown => exact ⟨_, a₁, w₁, hq, .pass (x := .inLoop c) rfl (fun _ _ => .inl (by simp)) harr⟩
  obtain ⟨e, a', w', hq, harr⟩ := key _ a w h₀
  exact ⟨e, a', w', hq, .of_steps (.one step_loop) harr⟩

theorem AWP.loop {x : AC} (I : Nat → S3 → Prop) {m : Nat} (h0 : ∃ s', Weak k n s s' ∧ I m s') (round : ∀ m s, I m s → AWP P k n x (thenX (fun s' => ∃ m' s'', m' < m ∧ Weak k n s' s'' ∧ I m' s'') Q) s) : AWP P k n (.loop x) Q s := by
  intro code hc c a w H
  cases code <;> simp only [cCode] at hc <;> try cases hc
  · rcases cReg_inv hc with h' | ⟨_, h'⟩ | ⟨_, _, _, h'⟩ <;> cases h'
  · rename_i x'
    obtain ⟨s', hw, hI⟩ := h0
    refine wp_loopN (fun m a w => ∃ s, I m s ∧ Rel k c n s a w) (m := m) ⟨s', hI, hw c a w H⟩ ?_
    rintro m a w ⟨s, hI, hr⟩
    refine wp_mono (round m s hI x' rfl c a w hr) ?_
    intro e a' w' hq
    cases e with
    | normal =>
      obtain ⟨s1, ⟨m', s2, h1, h2, h3⟩, h4⟩ := hq
      exact ⟨m', h1, s2, h3, h2 c a' w' h4⟩
    | exit id => exact hq
    | ret => exact hq
    | _ => exact hq.elim

theorem AWP.reg {ops : List AOper} (h : evT P n ops s.nx ⟨s.tm, s.hp⟩ (fun s' f => Q .normal ⟨s'.tm, s'.hp, f⟩)) : AWP P k n (.reg ops) Q s := by
  intro code hc c a w H
  cases code <;> simp only [cCode] at hc <;> try cases hc
  rename_i id ops' draw
  rcases cReg_inv hc with h' | ⟨hd, h'⟩ | ⟨_, _, _, h'⟩
  · cases h'
  · subst hd
    cases h'
    obtain ⟨h0, A, μ, hr⟩ := H
    exact wp_region_list (evT_sound (c := c) _ (fun s' f a w A μ hK hr => ⟨⟨s'.tm, s'.hp, f⟩, hK, h0, A, μ, hr⟩) ops'.toList s.nx ⟨s.tm, s.hp⟩ a w A μ h hr)
  · cases h'

theorem AWP.dreg {ops : List AOper} {par : List (Nat × Nat)} (h : evD P n ops s.nx ⟨s.tm, s.hp⟩ [] (fun s' f lg => parOk par lg = true ∧ Q .normal ⟨s'.tm, s'.hp, f⟩)) : AWP P k n (.dreg ops par) Q s := by
  intro code hc c a w H
  cases code <;> simp only [cCode] at hc <;> try cases hc
  rename_i id ops' draw
  rcases cReg_inv hc with h' | ⟨hd, h'⟩ | ⟨hd, hm, hreg, h'⟩
  · cases h'
  · cases h'
  · subst hd
    cases h'
    obtain ⟨h0, A, μ, hr⟩ := H
    obtain ⟨ds, g1, g2, g3⟩ := evD_data (P := P) (n := n) (ops := ops') (f0 := s.nx) (s0 := ⟨s.tm, s.hp⟩) ops'.toList 0 (fun _ => default) (Nat.zero_le _) rfl (fun i hi => by omega) h
    have S : Stat P n ops' s.nx ds ⟨s.tm, s.hp⟩ := ⟨g1, hreg, g2⟩
    refine wp_region_any hm ?_
    have hDl : Dl (Array.replicate ops'.size false) = fun _ => false := by
      funext i; unfold Dl; simp [Array.getD]
    have hst : stP (dstF ops') ds ⟨s.tm, s.hp⟩ (fun _ => false) ops'.size = ⟨s.tm, s.hp⟩ := by
      unfold stP
      congr 1
      · funext x; exact accP_skip (i := 0) (Nat.zero_le _) (fun _ _ _ _ => rfl)
      · funext x; exact accP_skip (i := 0) (Nat.zero_le _) (fun _ _ _ _ => rfl)
    refine any_order (c := c) S (fun a w A μ hr => ⟨_, g3, h0, A, μ, hr⟩) ops'.size _ a _ A μ (by simp) ?_ ?_ ?_
    · rw [hDl]; intro i es _ h; cases h
    · unfold unl; exact Nat.le_trans (List.countP_le_length) (by simp)
    · rw [hDl, hst]
      obtain ⟨r, _⟩ := hr.step (w' := { w with drawn := w.drawn + 1 }) rfl rfl rfl (Nat.le_refl _) s.hp (fun _ _ h => h) (fun _ _ _ => rfl) (fun _ => False) (fun _ h => h.elim)
      have hA : (fun x => A x ∨ False) = A := by funext x; simp
      rw [hA] at r
      exact r.free fun b hb => hb.1
end
end Go.Am
