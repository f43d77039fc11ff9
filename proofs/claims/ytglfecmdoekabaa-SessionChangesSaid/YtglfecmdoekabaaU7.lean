/- Speakers as bitcasttalk makes them, in plain Lean. -/
import Derived.Test.YtglfecmdoekabaaV5
import Derived.Test.YtglfecmdoekabaaG10
namespace Go.Proofs.Ytglfecmdoekabaa
open Go Go.Am
set_option linter.unusedVariables false
set_option linter.unusedSimpArgs false
def stepT (L : List Int) (p : Nat) (s : Spk) : Spk × Nat :=
  if Mod (rawV L (chgT L p).2) 8 = 7 then
    (if (restart s (wantsT L (rawP L (chgT L p).2)).1).2 ≠ 0 then s else (restart s (wantsT L (rawP L (chgT L p).2)).1).1, (wantsT L (rawP L (chgT L p).2)).2)
  else (if (change s (chgT L p).1).2 ≠ 0 then s else (change s (chgT L p).1).1, rawP L (chgT L p).2)
theorem stepT_k {L : List Int} {p : Nat} {s : Spk} (h : spkOk s) : spkOk (stepT L p s).1 := by
  unfold stepT
  split
  · simp only
    split
    · exact h
    · rename_i q; exact restart_spkOk (by simpa using q)
  · simp only
    split
    · exact h
    · rename_i q; exact change_spkOk (by simpa using q)
def stepN (L : List Int) : Nat → Spk × Nat → Spk × Nat
  | 0, s => s
  | n + 1, s => stepN L n (stepT L s.2 s.1)
theorem stepN_k {L : List Int} : ∀ {n : Nat} {s : Spk × Nat}, spkOk s.1 → spkOk (stepN L n s).1
  | 0, _, h => h
  | n + 1, _, h => stepN_k (n := n) (stepT_k h)
/-- One peer of a speaker may be told that it has acknowledged something. -/
def per1 (L : List Int) (last : Int) (x : Per) (p : Nat) : Per × Nat :=
  if Mod (rawV L p) 2 = 0 then (⟨x.router, rng L (rawP L p) 0 3, Mod (rawV L (rawP L (rawP L p))) (W (last + 1))⟩, rawP L (rawP L (rawP L p))) else (x, rawP L p)
def perN (L : List Int) (last : Int) : List Per → Nat → List Per × Nat
  | [], p => ([], p)
  | x :: l, p => ((per1 L last x p).1 :: (perN L last l (per1 L last x p).2).1, (perN L last l (per1 L last x p).2).2)
theorem perN_len {L : List Int} {last : Int} : ∀ {l : List Per} {p : Nat}, (perN L last l p).1.length = l.length
  | [], _ => rfl
  | x :: l, p => by simp [perN, perN_len (l := l)]
theorem perN_append {L : List Int} {last : Int} {m : List Per} : ∀ {l : List Per} {p : Nat},
    perN L last (l ++ m) p = ((perN L last l p).1 ++ (perN L last m (perN L last l p).2).1, (perN L last m (perN L last l p).2).2)
  | [], _ => rfl
  | x :: l, p => by simp [perN, perN_append (l := l)]
theorem per1_router {L : List Int} {last : Int} {x : Per} {p : Nat} : (per1 L last x p).1.router = x.router := by unfold per1; split <;> rfl
theorem perN_routers {L : List Int} {last : Int} : ∀ {l : List Per} {p : Nat}, (perN L last l p).1.map Per.router = l.map Per.router
  | [], _ => rfl
  | x :: l, p => by simp [perN, perN_routers (l := l), per1_router]
theorem per1_ok {L : List Int} {r last : Int} {x : Per} {p : Nat} (h0 : 0 ≤ last ∧ last ≤ 1000000) (h : perOk r last x) : perOk r last (per1 L last x p).1 := by
  unfold per1
  split
  · obtain ⟨h1, h2, h3, h4⟩ := h
    have a := rng_in (L := L) (p := rawP L p) (lo := 0) (hi := 3) (by omega)
    rw [W_eq (by omega)]
    have b := Mod_range (x := rawV L (rawP L (rawP L p))) (n := last + 1) (by omega)
    exact ⟨h1, h2, ⟨by simp only; omega, by simp only; omega⟩, by simp only; omega, by simp only; omega⟩
  · exact h
theorem perN_ok {L : List Int} {r last : Int} (h0 : 0 ≤ last ∧ last ≤ 1000000) : ∀ {l : List Per} {p : Nat}, (∀ x ∈ l, perOk r last x) → ∀ x ∈ (perN L last l p).1, perOk r last x
  | [], _, _, _, hx => by simp [perN] at hx
  | y :: l, p, h, x, hx => by
    rcases List.mem_cons.mp hx with rfl | hx
    · exact per1_ok h0 (h y (by simp))
    · exact perN_ok h0 (fun z hz => h z (by simp [hz])) x hx
def spk1 (L : List Int) (p : Nat) : Spk :=
  (new (rng L p 1 4) (pickI [1, 1, 5, 999999] (rawV L (rawP L p))) (([7, 8, 9] : List Int).take (rng L (rawP L (rawP L p)) 0 3).toNat)).1
def spk2 (L : List Int) (p : Nat) : Spk × Nat :=
  stepN L (Mod (rawV L (rawP L (rawP L (rawP L p)))) 6).toNat (spk1 L p, rawP L (rawP L (rawP L (rawP L p))))
def spkT (L : List Int) (p : Nat) : Spk × Nat :=
  (⟨(spk2 L p).1.router, (spk2 L p).1.epoch, (spk2 L p).1.last, (spk2 L p).1.items, (perN L (spk2 L p).1.last (spk2 L p).1.peers (spk2 L p).2).1⟩, (perN L (spk2 L p).1.last (spk2 L p).1.peers (spk2 L p).2).2)
theorem perOk_old {r : Int} (h : 1 ≤ r ∧ r ≤ 4) : ∀ x ∈ ([7, 8, 9] : List Int), perOk r 0 ⟨x, 0, 0⟩ := by
  intro x hx
  simp at hx
  rcases hx with rfl | rfl | rfl <;> exact ⟨by decide, by simp only; omega, by decide, by decide⟩
theorem spk1_ok {L : List Int} {p : Nat} : spkOk (spk1 L p) := by
  have h1 := rng_in (L := L) (p := p) (lo := 1) (hi := 4) (by omega)
  have h2 : pickI [1, 1, 5, 999999] (rawV L (rawP L p)) ∈ ([1, 1, 5, 999999] : List Int) := pickI_mem (by simp) _
  have h3 : 1 ≤ pickI [1, 1, 5, 999999] (rawV L (rawP L p)) ∧ pickI [1, 1, 5, 999999] (rawV L (rawP L p)) ≤ 1000000 := by
    generalize pickI [1, 1, 5, 999999] (rawV L (rawP L p)) = z at *
    simp at h2
    omega
  unfold spk1
  generalize pickI [1, 1, 5, 999999] (rawV L (rawP L p)) = k at *
  generalize rng L p 1 4 = r at *
  generalize (rng L (rawP L (rawP L p)) 0 3).toNat = n
  have ok : spkOk ⟨r, k, 0, [], (([7, 8, 9] : List Int).take n).map fun x => ⟨x, 0, 0⟩⟩ := by
    refine ⟨by simp only; omega, h3, ⟨Int.le_refl _, by simp⟩, ⟨by simp, by simp, by simp⟩, ?_, ?_, ?_⟩
    · simp only [List.length_map, List.length_take, List.length_cons, List.length_nil]; omega
    · intro q hq
      obtain ⟨x, hx, rfl⟩ := List.mem_map.mp hq
      exact perOk_old h1 x (List.mem_of_mem_take hx)
    · rw [List.pairwise_map]
      exact List.Pairwise.take (by decide)
  have e : new r k (([7, 8, 9] : List Int).take n) = if spkOk ⟨r, k, 0, [], (([7, 8, 9] : List Int).take n).map fun x => ⟨x, 0, 0⟩⟩ then (⟨r, k, 0, [], (([7, 8, 9] : List Int).take n).map fun x => ⟨x, 0, 0⟩⟩, 0) else (spk0, 1) := rfl
  rw [e, if_pos ok]
  exact ok
theorem spk2_ok {L : List Int} {p : Nat} : spkOk (spk2 L p).1 := stepN_k spk1_ok
theorem spkT_k {L : List Int} {p : Nat} : spkOk (spkT L p).1 := by
  obtain ⟨h1, h2, h3, h4, h5, h6, h7⟩ := spk2_ok (L := L) (p := p)
  refine ⟨h1, h2, h3, h4, by simpa [spkT, perN_len] using h5, perN_ok h3 h6, ?_⟩
  have e : (perN L (spk2 L p).1.last (spk2 L p).1.peers (spk2 L p).2).1.map Per.router = (spk2 L p).1.peers.map Per.router := perN_routers
  rw [← List.pairwise_map (f := Per.router) (R := (· < ·))] at h7
  show List.Pairwise _ (perN L (spk2 L p).1.last (spk2 L p).1.peers (spk2 L p).2).1
  rw [← List.pairwise_map (f := Per.router) (R := (· < ·)), e]
  exact h7
end Go.Proofs.Ytglfecmdoekabaa
