/- The exchange in plain Lean. -/
import Derived.Test.YtglfecmdoekabaaG12
namespace Go.Proofs.Ytglfecmdoekabaa
open Go Go.Am
set_option linter.unusedVariables false
set_option linter.unusedSimpArgs false
structure ES where
  e : Int
  a : Spk
  l : Lsn
  air : List Sig
  p : Nat
def cutAir (L : List Int) (p : Nat) (air : List Sig) (j : Nat) : List Sig := if 0 < Mod (rawV L p) 4 then air.take j ++ air.drop (j + 1) else air
def stpAir (L : List Int) (s : ES) (q : Nat) (x : Sig) (air : List Sig) : ES :=
  if x.kind = 3 then ⟨(ack s.a x).2, (ack s.a x).1, s.l, air, q⟩
  else ⟨(hear s.l x).2, s.a, (hear s.l x).1.1, air ++ [(hear s.l x).1.2], q⟩
def stp (L : List Int) (r : Bool) (s : ES) : ES :=
  if Mod (rawV L s.p) 8 < 2 then ⟨(change s.a (chgT L (rawP L s.p)).1).2, (change s.a (chgT L (rawP L s.p)).1).1, s.l, s.air, (chgT L (rawP L s.p)).2⟩
  else if Mod (rawV L s.p) 8 < 4 then ⟨(send s.a 2).2, s.a, s.l, s.air ++ (send s.a 2).1, rawP L s.p⟩
  else if Mod (rawV L s.p) 8 = 7 ∧ r = true then
    if Mod (rawV L (rawP L s.p)) 2 = 0 then ⟨(restart s.a (wantsT L (rawP L (rawP L s.p))).1).2, (restart s.a (wantsT L (rawP L (rawP L s.p))).1).1, s.l, s.air, (wantsT L (rawP L (rawP L s.p))).2⟩
    else ⟨s.e, s.a, ⟨2, W (s.l.epoch + 1), []⟩, s.air, rawP L (rawP L s.p)⟩
  else match s.air[(Mod (rawV L (rawP L s.p)) s.air.length).toNat]? with
    | none => ⟨s.e, s.a, s.l, s.air, rawP L s.p⟩
    | some x => stpAir L s (rawP L (rawP L (rawP L s.p))) x (cutAir L (rawP L (rawP L s.p)) s.air (Mod (rawV L (rawP L s.p)) s.air.length).toNat)
def es0 (p : Nat) : ES := ⟨0, ⟨1, 1, 0, [], [⟨2, 0, 0⟩]⟩, ⟨2, 1, []⟩, [], p⟩
def stps (L : List Int) (r : Bool) (p : Nat) : Nat → ES
  | 0 => es0 p
  | k + 1 => stp L r (stps L r p k)
theorem chgT_err (L : List Int) (p : Nat) : wErr true (chgT L p).1 = 0 := (changes_ok (wantsT_ok L p) (wantsT_ok L (wantsT L p).2)).2.1
theorem wantsT_err (L : List Int) (p : Nat) : wErr false (wantsT L p).1 = 0 := (wantsT_ok L p).err (by omega)
theorem Inv.sub {k : Nat} {a : Spk} {l : Lsn} {air air' : List Sig} (h : Inv k a l air) (h1 : ∀ x ∈ air', x ∈ air) (h2 : air'.length ≤ air.length) : Inv k a l air' :=
  { h with fly := fun x hx => h.fly x (h1 x hx), len := by have := h.len; omega }
theorem cutAir_sub {L : List Int} {p : Nat} {air : List Sig} {j : Nat} : (∀ x ∈ cutAir L p air j, x ∈ air) ∧ (cutAir L p air j).length ≤ air.length := by
  unfold cutAir
  split
  · refine ⟨fun x hx => ?_, by simp; omega⟩
    rcases List.mem_append.mp hx with hx | hx
    · exact List.mem_of_mem_take hx
    · exact List.mem_of_mem_drop hx
  · exact ⟨fun _ h => h, Nat.le_refl _⟩
theorem stp_inv {L : List Int} {r : Bool} {k : Nat} {s : ES} (h : Inv k s.a s.l s.air) (he : s.e = 0) (hk : k < 100) : Inv (k + 1) (stp L r s).a (stp L r s).l (stp L r s).air ∧ (stp L r s).e = 0 := by
  unfold stp
  split
  · have := inv_change h hk (chgT_err L (rawP L s.p)); exact ⟨this.2, this.1⟩
  split
  · have := inv_send h hk; exact ⟨this.2, this.1⟩
  split
  · split
    · have := inv_restart h hk (wantsT_err L (rawP L (rawP L s.p))); exact ⟨this.2, this.1⟩
    · have := inv_lapse h hk
      have hle := h.lok.2.1
      rw [W_eq (by omega)]
      exact ⟨this, he⟩
  split
  · exact ⟨h.grow, he⟩
  · rename_i x hx
    have hc := cutAir_sub (L := L) (p := rawP L (rawP L s.p)) (air := s.air) (j := (Mod (rawV L (rawP L s.p)) s.air.length).toNat)
    have hi := h.sub hc.1 hc.2
    have ho := h.fly x (mem_of_get hx)
    unfold stpAir
    split
    · rename_i hk3
      have := inv_ack hi ho hk3; exact ⟨this.2, this.1⟩
    · rename_i hk3
      have := inv_hear hi ho hk3; exact ⟨this.2, this.1⟩
theorem stps_inv {L : List Int} {r : Bool} {p : Nat} : ∀ k : Nat, k ≤ 100 → Inv k (stps L r p k).a (stps L r p k).l (stps L r p k).air ∧ (stps L r p k).e = 0
  | 0, _ => ⟨Inv.init, rfl⟩
  | k + 1, hk => by
    have := stps_inv (L := L) (r := r) (p := p) k (by omega)
    exact stp_inv this.1 this.2 (by omega)
end Go.Proofs.Ytglfecmdoekabaa
