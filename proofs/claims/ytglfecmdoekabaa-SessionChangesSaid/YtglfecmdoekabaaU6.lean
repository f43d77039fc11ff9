/- The exchange keeps the pair as it should be. -/
import Derived.Test.YtglfecmdoekabaaU5
namespace Go.Proofs.Ytglfecmdoekabaa
open Go Go.Am
set_option linter.unusedVariables false
set_option linter.unusedSimpArgs false
structure Inv2 (k : Nat) (a : Spk) (l : Lsn) (air : List Sig) : Prop where
  inv : Inv k a l air
  pi : PI a.epoch a.last a.items (pOf a.peers 2) l.epoch (gOf l.heard 1)
  acks : ∀ x ∈ air, x.kind = 3 → AckOk a.epoch l.epoch (gOf l.heard 1) x
theorem gOf_nil (r : Int) : gOf [] r = ⟨r, 0, 0, []⟩ := gOf_no List.Pairwise.nil (by simp)
theorem Inv2.init : Inv2 0 ⟨1, 1, 0, [], [⟨2, 0, 0⟩]⟩ ⟨2, 1, []⟩ [] where
  inv := Inv.init
  pi := by
    rw [show pOf [(⟨2, 0, 0⟩ : Per)] 2 = ⟨2, 0, 0⟩ by decide, gOf_nil]
    exact ⟨by decide, by decide, ⟨by simp, by simp, by simp⟩, LastOk.nil, by decide, by decide, fun q => by simp at q, ⟨by decide, by decide⟩, by decide, ⟨by simp, by simp, by simp⟩, fun q => by simp at q⟩
  acks := by simp
theorem Inv2.sub {k : Nat} {a : Spk} {l : Lsn} {air air' : List Sig} (h : Inv2 k a l air) (h1 : ∀ x ∈ air', x ∈ air) (h2 : air'.length ≤ air.length) : Inv2 k a l air' :=
  ⟨h.inv.sub h1 h2, h.pi, fun x hx => h.acks x (h1 x hx)⟩
theorem Inv2.tell {k : Nat} {a : Spk} {l : Lsn} {air : List Sig} {x : Sig} (hx : AirOk a x) (hk : x.kind ≠ 3) : TellOk a.epoch a.last a.items x := ⟨(hx.tell hk).2.2, fun q1 q2 => hx.upd q1 q2⟩
theorem inv2_change {k : Nat} {a : Spk} {l : Lsn} {air : List Sig} (h : Inv2 k a l air) (hk : k < 100) {c : List Wnt} (hc : wErr true c = 0) : (change a c).2 = 0 ∧ Inv2 (k + 1) (change a c).1 l air := by
  obtain ⟨h1, h2⟩ := inv_change h.inv hk hc
  refine ⟨h1, h2, ?_, ?_⟩
  · obtain ⟨v1, v2, v3, v4⟩ := change_val h1
    obtain ⟨q1, q2, q3, q4⟩ := chg_ok h.pi.io h.pi.n0 (chgOk_of hc)
    rw [v4]
    exact h.pi.change q2 q4 q1 h.pi.last.chg
  · intro x hx hk
    obtain ⟨v1, v2, v3, v4⟩ := change_val h1
    rw [v4]
    exact h.acks x hx hk
theorem inv2_restart {k : Nat} {a : Spk} {l : Lsn} {air : List Sig} (h : Inv2 k a l air) (hk : k < 100) {w : List Wnt} (hw : wErr false w = 0) : (restart a w).2 = 0 ∧ Inv2 (k + 1) (restart a w).1 l air := by
  obtain ⟨h1, h2⟩ := inv_restart h.inv hk hw
  obtain ⟨v1, v2, v3, v4⟩ := restart_val h1
  obtain ⟨p, hp, hr⟩ := h.inv.ap
  refine ⟨h1, h2, ?_, ?_⟩
  · rw [v4, hp]
    have : pOf (List.map (fun p : Per => (⟨p.router, 0, 0⟩ : Per)) [p]) 2 = ⟨2, 0, 0⟩ := by
      have := pOf_mem (l := [(⟨p.router, 0, 0⟩ : Per)]) (z := ⟨p.router, 0, 0⟩) (List.pairwise_singleton _ _) (by simp)
      simp only [hr] at this
      simp only [List.map_cons, List.map_nil, hr]
      exact this
    simp only
    rw [this]
    obtain ⟨_, _, _, _, w5⟩ := wErr_zero.mp hw
    exact h.pi.restart (by omega) (restart_items (chgOk_of hw) w5) (LastOk.restart w) 2 (by have := h.inv.lok.2.1; omega)
  · intro x hx hk
    rw [v4]
    exact (h.acks x hx hk).restart
theorem inv2_lapse {k : Nat} {a : Spk} {l : Lsn} {air : List Sig} (h : Inv2 k a l air) (hk : k < 100) : Inv2 (k + 1) a ⟨2, l.epoch + 1, []⟩ air := by
  refine ⟨inv_lapse h.inv hk, ?_, fun x hx hk => ?_⟩
  · simp only [gOf_nil]; exact h.pi.lapse 1
  · exact (h.acks x hx hk).lapse
theorem inv2_send {k : Nat} {a : Spk} {l : Lsn} {air : List Sig} (h : Inv2 k a l air) (hk : k < 100) : (send a 2).2 = 0 ∧ Inv2 (k + 1) a l (air ++ (send a 2).1) := by
  obtain ⟨h1, h2⟩ := inv_send h.inv hk
  refine ⟨h1, h2, h.pi, fun x hx hk => ?_⟩
  rcases List.mem_append.mp hx with hx | hx
  · exact h.acks x hx hk
  · obtain ⟨p, hp, hr⟩ := h.inv.ap
    exact absurd hk ((send_val h.inv.aok ⟨p, by rw [hp]; simp, hr⟩).2 x hx).kind
theorem inv2_hear {k : Nat} {a : Spk} {l : Lsn} {air : List Sig} (h : Inv2 k a l air) {x : Sig} (hx : AirOk a x) (hk : x.kind ≠ 3) : (hear l x).2 = 0 ∧ Inv2 (k + 1) a (hear l x).1.1 (air ++ [(hear l x).1.2]) := by
  obtain ⟨h1, h2⟩ := inv_hear h.inv hx hk
  obtain ⟨x1, x2, x3⟩ := hx.tell hk
  have hlen : l.heard.length < 12 := by
    rcases heard_one (fun g hg => (h.inv.heard g hg).1) h.inv.lok.2.2.2.2 with e | ⟨g, e⟩ <;> rw [e] <;> simp
  obtain ⟨_, k2⟩ := hear_val h.inv.lok hx.ok hk (x2.trans h.inv.lr.symm) (.inr hlen)
  have hg := k2.self h.inv.lok
  rw [x1] at hg
  have ht : TellOk a.epoch a.last a.items x := ⟨x3, fun q1 q2 => hx.upd q1 q2⟩
  have pi' := h.pi.hear hx.ok hk ht
  refine ⟨h1, h2, ?_, fun y hy hyk => ?_⟩
  · rw [hg, k2.epoch]; exact pi'
  · rw [hg, k2.epoch]
    rcases List.mem_append.mp hy with hy | hy
    · exact (h.acks y hy hyk).grow (hearG_grows ht.ep)
    · rw [List.mem_singleton] at hy
      rw [hy, k2.ans, x1]
      exact pi'.answer
theorem inv2_ack {k : Nat} {a : Spk} {l : Lsn} {air : List Sig} (h : Inv2 k a l air) {x : Sig} (hx : AirOk a x) (ha : AckOk a.epoch l.epoch (gOf l.heard 1) x) (hk : x.kind = 3) : (ack a x).2 = 0 ∧ Inv2 (k + 1) (ack a x).1 l air := by
  obtain ⟨h1, h2⟩ := inv_ack h.inv hx hk
  obtain ⟨x1, x2⟩ := hx.ack hk
  obtain ⟨p, hp, hr⟩ := h.inv.ap
  have hh : ∃ z ∈ a.peers, z.router = x.src := ⟨p, by rw [hp]; simp, hr.trans x1.symm⟩
  obtain ⟨_, k2⟩ := ack_val h.inv.aok hx.ok hk (x2.trans h.inv.ar.symm) hh
  have hs := k2.self h.inv.aok hh
  rw [x1] at hs
  have hv : 0 ≤ x.ver := by
    have hn : sigNums x := by
      have := hx.ok
      unfold sigErr at this
      split at this
      · omega
      split at this
      · omega
      rename_i q; exact (Classical.not_not.mp q).2
    unfold sigNums at hn
    rw [if_neg (by omega), if_neg (by omega)] at hn
    exact hn.2.1.1
  refine ⟨h1, h2, ?_, fun y hy hyk => ?_⟩
  · rw [k2.epoch, k2.last, k2.items, hs]; exact h.pi.ack rfl rfl ha hv
  · rw [k2.epoch]; exact h.acks y hy hyk
theorem Inv2.grow {k : Nat} {a : Spk} {l : Lsn} {air : List Sig} (h : Inv2 k a l air) : Inv2 (k + 1) a l air := ⟨h.inv.grow, h.pi, h.acks⟩
theorem stp_inv2 {L : List Int} {r : Bool} {k : Nat} {s : ES} (h : Inv2 k s.a s.l s.air) (he : s.e = 0) (hk : k < 100) : Inv2 (k + 1) (stp L r s).a (stp L r s).l (stp L r s).air ∧ (stp L r s).e = 0 := by
  unfold stp
  split
  · have := inv2_change h hk (chgT_err L (rawP L s.p)); exact ⟨this.2, this.1⟩
  split
  · have := inv2_send h hk; exact ⟨this.2, this.1⟩
  split
  · split
    · have := inv2_restart h hk (wantsT_err L (rawP L (rawP L s.p))); exact ⟨this.2, this.1⟩
    · have := inv2_lapse h hk
      have hle := h.inv.lok.2.1
      have hle2 := h.inv.le
      rw [W_eq (by omega)]
      exact ⟨this, he⟩
  split
  · exact ⟨h.grow, he⟩
  · rename_i x hx
    have hc := cutAir_sub (L := L) (p := rawP L (rawP L s.p)) (air := s.air) (j := (Mod (rawV L (rawP L s.p)) s.air.length).toNat)
    have hi := h.sub hc.1 hc.2
    have ho := h.inv.fly x (mem_of_get hx)
    unfold stpAir
    split
    · rename_i hk3
      have := inv2_ack hi ho (h.acks x (mem_of_get hx) hk3) hk3; exact ⟨this.2, this.1⟩
    · rename_i hk3
      have := inv2_hear hi ho hk3; exact ⟨this.2, this.1⟩
theorem stps_inv2 {L : List Int} {r : Bool} {p : Nat} : ∀ k : Nat, k ≤ 100 → Inv2 k (stps L r p k).a (stps L r p k).l (stps L r p k).air ∧ (stps L r p k).e = 0
  | 0, _ => ⟨Inv2.init, rfl⟩
  | k + 1, hk => by
    have := stps_inv2 (L := L) (r := r) (p := p) k (by omega)
    exact stp_inv2 this.1 this.2 (by omega)
theorem Inv2.si {k : Nat} {a : Spk} {l : Lsn} {air : List Sig} (h : Inv2 k a l air) : SI (a, l) := by
  obtain ⟨p, hp, hr⟩ := h.inv.ap
  exact ⟨h.inv.aok, h.inv.ar, by simp [hp, hr], h.inv.lok, h.inv.lr, fun g hg => (h.inv.heard g hg).1, h.pi⟩
end Go.Proofs.Ytglfecmdoekabaa
