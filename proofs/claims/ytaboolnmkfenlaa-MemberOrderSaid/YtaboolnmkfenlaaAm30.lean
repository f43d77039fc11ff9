/- States that give one block up or say less of one temporary or one field. -/
import Derived.Test.YtaboolnmkfenlaaAm29
namespace Go.Am
set_option linter.unusedVariables false
set_option linter.unusedSimpArgs false
section
variable {P : Program} {k n : Nat} {tm : Nat → AV} {hp : Hp} {nx : Nat}

theorem Weak.giveT {kk : Nat} {es : List AV} (t b : Nat) (ht : tm t = .vec b) (hb : hp b = some (.vec kk es)) (hx : pureL es) : Weak k n ⟨tm, hp, nx⟩ ⟨upd tm t (.sl kk es false), upd hp b none, nx⟩ := by
  refine Weak.give b rfl (fun u => .inr ?_) (fun b' x hx' => ?_) (by show hp b ≠ none; rw [hb]; simp)
  · show Give b hp (tm u) (upd tm t (.sl kk es false) u)
    by_cases e : u = t
    · subst e; rw [upd_same, ht]; exact Give.vec hb hx
    · rw [upd_ne _ _ e]; exact Give.refl
  · have hx' : upd hp b none b' = some x := hx'
    by_cases e : b' = b
    · subst e; rw [upd_same] at hx'; cases hx'
    · rw [upd_ne _ _ e] at hx'; exact ⟨e, .inl hx'⟩

theorem GiveL.set {b : Nat} {hp : Hp} {y : AV} : ∀ {cs : List AV} {i : Nat} {x : AV}, cs[i]? = some x → Give b hp x y → GiveL b hp cs (cs.set i y)
  | [], i, x, h, _ => by simp at h
  | c :: cs, 0, x, h, g => by simp at h; subst h; exact ⟨g, GiveL.refl⟩
  | c :: cs, i + 1, x, h, g => ⟨Give.refl, GiveL.set (by simpa using h) g⟩
theorem Weak.giveB {kk : Nat} {es cs : List AV} (b0 i b : Nat) (h0 : hp b0 = some (.box (.agg cs))) (hi : cs[i]? = some (.vec b)) (hb : hp b = some (.vec kk es)) (hx : pureL es) :
    Weak k n ⟨tm, hp, nx⟩ ⟨tm, upd (upd hp b none) b0 (some (.box (.agg (cs.set i (.sl kk es false))))), nx⟩ := by
  have hne : b0 ≠ b := fun e => by subst e; rw [h0] at hb; cases hb
  refine Weak.give b rfl (fun u => .inr Give.refl) (fun b' x hx' => ?_) (by show hp b ≠ none; rw [hb]; simp)
  have hx' : upd (upd hp b none) b0 (some (.box (.agg (cs.set i (.sl kk es false))))) b' = some x := hx'
  by_cases e : b' = b0
  · subst e; rw [upd_same] at hx'; cases hx'
    exact ⟨hne, .inr ⟨_, _, h0, rfl, rfl, Give.agg (GiveL.set hi (Give.vec hb hx))⟩⟩
  · rw [upd_ne _ _ e] at hx'
    by_cases e' : b' = b
    · subst e'; rw [upd_same] at hx'; cases hx'
    · rw [upd_ne _ _ e'] at hx'; exact ⟨e', .inl hx'⟩

theorem Weak.subT {y : AV} (t : Nat) (h : Sub (tm t) y) : Weak k n ⟨tm, hp, nx⟩ ⟨upd tm t y, hp, nx⟩ := by
  refine Weak.sub (fun u => ?_) rfl rfl
  show Sub (tm u) (upd tm t y u)
  by_cases e : u = t
  · subst e; rw [upd_same]; exact h
  · rw [upd_ne _ _ e]; exact Sub.refl
theorem SubL.set {y : AV} : ∀ {cs : List AV} {i : Nat} {x : AV}, cs[i]? = some x → Sub x y → SubL cs (cs.set i y)
  | [], i, x, h, _ => by simp at h
  | c :: cs, 0, x, h, g => by simp at h; subst h; exact ⟨g, SubL.refl⟩
  | c :: cs, i + 1, x, h, g => ⟨Sub.refl, SubL.set (by simpa using h) g⟩
theorem Weak.subB {x y : AV} (b0 : Nat) (h0 : hp b0 = some (.box x)) (h : Sub x y) (hy : y.solid = true) : Weak k n ⟨tm, hp, nx⟩ ⟨tm, upd hp b0 (some (.box y)), nx⟩ := by
  rintro c a w ⟨h1, A, μ, H⟩
  obtain ⟨hd, q1, ⟨q2, q3, v, ty, q4, q5⟩, q6⟩ := H.blk b0 _ h0
  have back : ∀ b z, upd hp b0 (some (.box y)) b = some z → ∃ z', hp b = some z' := by
    intro b z hz
    by_cases e : b = b0
    · subst e; exact ⟨_, h0⟩
    · rw [upd_ne _ _ e] at hz; exact ⟨z, hz⟩
  refine ⟨h1, A, μ, ⟨H.tm, H.n, H.df, fun b z hz => ?_, fun b b' z z' hd1 hd2 hz hz' => ?_, H.lt, fun b hb => ?_, H.keep, H.A0, H.A1, H.mu⟩⟩
  · have hz : upd hp b0 (some (.box y)) b = some z := hz
    by_cases e : b = b0
    · subst e; rw [upd_same] at hz; cases hz
      exact ⟨hd, q1, ⟨q2, hy, v, ty, h _ _ _ _ q4, q5⟩, q6⟩
    · rw [upd_ne _ _ e] at hz; exact H.blk b z hz
  · obtain ⟨_, g⟩ := back _ _ hz
    obtain ⟨_, g'⟩ := back _ _ hz'
    exact H.inj _ _ _ _ _ _ g g'
  · have : μ b = none ∧ hp b = none := H.fr b hb
    refine ⟨this.1, ?_⟩
    show upd hp b0 (some (.box y)) b = none
    by_cases e : b = b0
    · subst e; rw [h0] at this; cases this.2
    · rw [upd_ne _ _ e]; exact this.2
/-- Both branches meet in one state. -/
theorem AWP.seqW {x y : AC} {Q : X → S3 → Prop} {s : S3} (st : S3) (h : AWP P k n x (thenX (fun s => Weak k n s st) Q) s) (h' : AWP P k n y Q st) : AWP P k n (.seq x y) Q s :=
  AWP.seqI (fun s => Weak k n s st) h fun _ hw => AWP.weak hw h'
theorem Sub.nil {kk : Nat} : Sub (.sl 0 [] true) (.sl kk [] false) := Sub.sl (.inr rfl) (by simp)
theorem Sub.full {kk : Nat} {es : List AV} {full : Bool} : Sub (.sl kk es full) (.sl kk es false) := Sub.sl (.inl rfl) (by simp)
end
end Go.Am
