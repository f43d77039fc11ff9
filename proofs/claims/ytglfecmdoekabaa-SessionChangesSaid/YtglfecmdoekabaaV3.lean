/- The exchange of a speaker and a listener, in plain Lean: what stays true. -/
import Derived.Test.YtglfecmdoekabaaV2
namespace Go.Proofs.Ytglfecmdoekabaa
open Go Go.Am
set_option linter.unusedVariables false
set_option linter.unusedSimpArgs false

theorem orI_zero2 {l : List Int} : orI l = 0 ↔ ∀ x ∈ l, x = 0 := by
  unfold orI
  cases h : l.find? (· != 0) with
  | none =>
    rw [List.find?_eq_none] at h
    exact ⟨fun _ x hx => by simpa using h x hx, fun _ => rfl⟩
  | some a =>
    have h1 := List.find?_some h
    have h2 := List.mem_of_find?_eq_some h
    exact ⟨fun e => by simp at e; subst e; simp at h1, fun e => by rw [e a h2] at h1; simp at h1⟩
theorem wErr_zero {chg : Bool} {l : List Wnt} : wErr chg l = 0 ↔ l.length ≤ 32 ∧ (∀ w ∈ l, 1 ≤ w.grp ∧ w.grp ≤ 99) ∧ (∀ w ∈ l, fltErr w.mode w.srcs = 0) ∧ (chg = false → ∀ w ∈ l, ¬ isNoW w) ∧ l.Pairwise fun x y => x.grp < y.grp := by
  have hz : wFErrs l = 0 ↔ ∀ w ∈ l, fltErr w.mode w.srcs = 0 := by
    rw [wFErrs, orI_zero2]
    constructor
    · intro h w hw; exact h _ (List.mem_map.mpr ⟨w, hw, rfl⟩)
    · intro h x hx; obtain ⟨w, hw, rfl⟩ := List.mem_map.mp hx; exact h w hw
  unfold wErr
  by_cases h1 : 32 < l.length
  · rw [if_pos h1]; constructor
    · intro h; omega
    · intro h; omega
  rw [if_neg h1]
  by_cases h2 : ∀ w ∈ l, 1 ≤ w.grp ∧ w.grp ≤ 99
  case neg =>
    rw [if_pos h2]; constructor
    · intro h; omega
    · intro h; exact absurd h.2.1 h2
  rw [if_neg (not_not_intro h2)]
  by_cases h3 : wFErrs l = 0
  case neg =>
    rw [if_pos h3]
    exact ⟨fun h => absurd h h3, fun h => hz.mpr h.2.2.1⟩
  rw [if_neg (not_not_intro h3)]
  by_cases h4 : chg = false ∧ ∃ w ∈ l, isNoW w
  · rw [if_pos h4]
    constructor
    · intro h; omega
    · intro h
      obtain ⟨hc, w, hw, hn⟩ := h4
      exact absurd hn (h.2.2.2.1 hc w hw)
  rw [if_neg h4]
  by_cases h5 : l.Pairwise fun x y => x.grp < y.grp
  · rw [if_neg (not_not_intro h5)]
    exact ⟨fun _ => ⟨by omega, h2, hz.mp h3, fun hc w hw hn => h4 ⟨hc, w, hw, hn⟩, h5⟩, fun _ => rfl⟩
  · rw [if_pos h5]
    exact ⟨fun h => by omega, fun h => absurd h.2.2.2.2 h5⟩
theorem chgOk_of {chg : Bool} {l : List Wnt} (h : wErr chg l = 0) : chgOk l := by
  obtain ⟨_, h1, h2, _⟩ := wErr_zero.mp h
  exact fun w hw => ⟨h1 w hw, h2 w hw⟩

theorem posP_one (p : Per) (r : Int) : posP [p] r = if p.router < r then 1 else 0 := by
  unfold posP
  by_cases h : p.router < r
  · rw [if_pos h, List.findIdx_cons]; simp [h]
  · rw [if_neg h, List.findIdx_cons]; simp [h]
theorem hitP_one (p : Per) : hitP [p] p.router := by
  have : posP [p] p.router = 0 := by rw [posP_one, if_neg (by omega)]
  unfold hitP
  rw [this]; exact ⟨by simp, rfl⟩

/-- A valid speaker stays one when it acknowledges, and nothing else changes. -/
theorem ackP_ok {s : Spk} {x : Sig} {p : Per} (h : perOk s.router s.last p) (h0 : 0 ≤ s.last) (hx : sigErr x = 0) (hk : x.kind = 3) : perOk s.router s.last (ackP s x p) ∧ (ackP s x p).router = p.router := by
  obtain ⟨h1, h2, h3, h4⟩ := h
  have hn : sigNums x := by
    unfold sigErr at hx
    split at hx
    · omega
    split at hx
    · omega
    rename_i h; exact (Classical.not_not.mp h).2
  unfold sigNums at hn
  rw [if_neg (by omega), if_neg (by omega)] at hn
  have hv : 0 ≤ ackV s x ∧ ackV s x ≤ s.last := by
    unfold ackV
    split
    · exact ⟨hn.2.1.1, by omega⟩
    · exact ⟨by omega, h0⟩
  unfold ackP
  split
  · exact ⟨⟨h1, h2, ⟨by simp only; omega, hn.2.2.2.1.2⟩, hv⟩, rfl⟩
  split
  · refine ⟨⟨h1, h2, h3, ?_⟩, rfl⟩
    simp only [maxI]
    split <;> omega
  · exact ⟨⟨h1, h2, h3, h4⟩, rfl⟩

theorem restart_items {w : List Wnt} (h : chgOk w) (ho : w.Pairwise fun x y => x.grp < y.grp) : itmsOk w.length (w.mapIdx wItm) := by
  refine ⟨fun x hx => ?_, ?_, ?_⟩
  · obtain ⟨i, hi, rfl⟩ := List.mem_mapIdx.mp hx
    obtain ⟨h1, h2⟩ := h _ (List.getElem_mem hi)
    exact ⟨⟨by simp only [wItm]; omega, by simp only [wItm]; omega⟩, h1, h2⟩
  · have : (w.mapIdx wItm).map Itm.grp = w.map Wnt.grp := by
      refine List.ext_getElem (by simp) fun i h1 h2 => ?_
      simp [wItm]
    rw [this]
    rw [List.Nodup, List.pairwise_map]
    exact ho.imp fun h => by omega
  · rw [List.pairwise_iff_getElem]
    intro i j hi hj hij
    simp only [List.getElem_mapIdx, wItm]
    omega

/-- A signal between speaker 1 and listener 2 that may be in the air. -/
structure AirOk (a : Spk) (x : Sig) : Prop where
  ok : sigErr x = 0
  ack : x.kind = 3 → x.src = 2 ∧ x.dst = 1
  tell : x.kind ≠ 3 → x.src = 1 ∧ x.dst = 2 ∧ x.epoch ≤ a.epoch
  upd : x.kind = 2 → x.epoch = a.epoch → UpdOk a.last a.items x
structure Inv (k : Nat) (a : Spk) (l : Lsn) (air : List Sig) : Prop where
  aok : spkOk a
  ar : a.router = 1
  ae : a.epoch ≤ k + 1
  al : a.last ≤ 99 * k
  ap : ∃ p, a.peers = [p] ∧ p.router = 2
  lok : lsnOk l
  lr : l.router = 2
  le : l.epoch ≤ k + 1
  heard : ∀ h ∈ l.heard, h.router = 1 ∧ h.epoch ≤ a.epoch ∧ (h.epoch = a.epoch → HrdOk a.last a.items h)
  fly : ∀ x ∈ air, AirOk a x
  len : air.length ≤ 200 * k

theorem Inv.init : Inv 0 ⟨1, 1, 0, [], [⟨2, 0, 0⟩]⟩ ⟨2, 1, []⟩ [] where
  aok := by decide
  ar := rfl
  ae := by decide
  al := by decide
  ap := ⟨_, rfl, rfl⟩
  lok := by decide
  lr := rfl
  le := by decide
  heard := fun h hh => by simp at hh
  fly := fun h hh => by simp at hh
  len := by simp
theorem Inv.grow {k : Nat} {a : Spk} {l : Lsn} {air : List Sig} (h : Inv k a l air) : Inv (k + 1) a l air :=
  { h with ae := by have := h.ae; omega, al := by have := h.al; omega, le := by have := h.le; omega, len := by have := h.len; omega }

theorem inv_change {k : Nat} {a : Spk} {l : Lsn} {air : List Sig} (h : Inv k a l air) (hk : k < 100) {c : List Wnt} (hc : wErr true c = 0) :
    (change a c).2 = 0 ∧ Inv (k + 1) (change a c).1 l air := by
  obtain ⟨c1, c2⟩ : c.length ≤ 32 ∧ chgOk c := ⟨(wErr_zero.mp hc).1, chgOk_of hc⟩
  obtain ⟨p1, p2, p3, p4, p5, p6, p7⟩ := h.aok
  obtain ⟨q1, q2, q3, q4⟩ := chg_ok p4 p3.1 c2
  have hal := h.al
  have e : change a c = (⟨a.router, a.epoch, (c.foldl chg1 (a.last, a.items)).1, (c.foldl chg1 (a.last, a.items)).2, a.peers⟩, 0) := by
    unfold change
    rw [if_neg (not_not_intro h.aok), if_neg (not_not_intro hc), if_neg (by omega)]
  rw [e]
  refine ⟨rfl, ⟨p1, p2, ⟨q4, by simp only; omega⟩, q1, p5, fun p hp => ?_, p7⟩, h.ar, ?_, ?_, h.ap, h.lok, h.lr, ?_, fun g hg => ?_, fun x hx => ?_, ?_⟩
  · obtain ⟨r1, r2, r3, r4⟩ := p6 p hp
    exact ⟨r1, r2, r3, r4.1, by have := q2.le; simp only; omega⟩
  · have := h.ae; simp only; omega
  · simp only; omega
  · have := h.le; omega
  · obtain ⟨g1, g2, g3⟩ := h.heard g hg
    exact ⟨g1, g2, fun e => (g3 e).adv q2⟩
  · obtain ⟨x1, x2, x3, x4⟩ := h.fly x hx
    exact ⟨x1, x2, x3, fun e1 e2 => (x4 e1 e2).adv q2⟩
  · have := h.len; omega

theorem inv_restart {k : Nat} {a : Spk} {l : Lsn} {air : List Sig} (h : Inv k a l air) (hk : k < 100) {w : List Wnt} (hw : wErr false w = 0) :
    (restart a w).2 = 0 ∧ Inv (k + 1) (restart a w).1 l air := by
  obtain ⟨w1, _, _, _, w5⟩ := wErr_zero.mp hw
  obtain ⟨p1, p2, p3, p4, p5, p6, p7⟩ := h.aok
  have hae := h.ae
  have e : restart a w = (⟨a.router, a.epoch + 1, w.length, w.mapIdx wItm, a.peers.map fun p => ⟨p.router, 0, 0⟩⟩, 0) := by
    unfold restart
    rw [if_neg (not_not_intro h.aok), if_neg (not_not_intro hw), if_neg (by omega)]
  rw [e]
  obtain ⟨p, hp, hr⟩ := h.ap
  refine ⟨rfl, ⟨p1, ⟨by simp only; omega, by simp only; omega⟩, ⟨by simp only; omega, by simp only; omega⟩, restart_items (chgOk_of hw) w5, by simpa using p5, fun q hq => ?_, ?_⟩, h.ar, ?_, ?_, ?_, h.lok, h.lr, ?_, fun g hg => ?_, fun x hx => ?_, ?_⟩
  · obtain ⟨q', hq', rfl⟩ := List.mem_map.mp hq
    obtain ⟨r1, r2, _, _⟩ := p6 q' hq'
    exact ⟨r1, r2, ⟨by simp, by simp⟩, by simp, by simp⟩
  · rw [List.pairwise_map]; exact p7
  · simp only; omega
  · simp only; omega
  · exact ⟨⟨p.router, 0, 0⟩, by simp [hp], hr⟩
  · have := h.le; omega
  · obtain ⟨g1, g2, g3⟩ := h.heard g hg
    exact ⟨g1, by simp only; omega, fun e => by simp only at e; omega⟩
  · obtain ⟨x1, x2, x3, x4⟩ := h.fly x hx
    exact ⟨x1, x2, fun e => ⟨(x3 e).1, (x3 e).2.1, by have := (x3 e).2.2; simp only; omega⟩, fun e1 e2 => by have := (x3 (by omega)).2.2; simp only at e2; omega⟩
  · have := h.len; omega

theorem inv_lapse {k : Nat} {a : Spk} {l : Lsn} {air : List Sig} (h : Inv k a l air) (hk : k < 100) : Inv (k + 1) a ⟨2, l.epoch + 1, []⟩ air := by
  have h' := h.grow
  obtain ⟨l1, l2, _⟩ := h.lok
  have hle := h.le
  exact { h' with lok := ⟨⟨by simp, by simp⟩, ⟨by simp only; omega, by simp only; omega⟩, by simp, fun g hg => by simp at hg, List.Pairwise.nil⟩, lr := rfl, le := by simp only; omega, heard := fun g hg => by simp at hg }

theorem sendFrom_len {s : Spk} {to acked : Int} : ∀ {r : List Itm} {prev : Int}, (sendFrom s to acked prev r).length ≤ r.length
  | [], _ => Nat.le_refl _
  | x :: r, prev => by
    simp only [sendFrom, List.length_append, List.length_cons]
    have := sendFrom_len (s := s) (to := to) (acked := acked) (r := r) (prev := x.ver)
    split <;> simp <;> omega
theorem nodup_len : ∀ (n : Nat) (l : List Int), l.Nodup → (∀ x ∈ l, 1 ≤ x ∧ x ≤ n) → l.length ≤ n
  | 0, l, _, h => by
    cases l with
    | nil => simp
    | cons x l => have := h x (by simp); omega
  | n + 1, l, hn, h => by
    have h1 := nodup_len n (l.erase ((n + 1 : Nat) : Int)) (hn.erase _) (fun x hx => by rw [hn.mem_erase_iff] at hx; have := h x hx.2; omega)
    rw [List.length_erase] at h1
    split at h1 <;> omega
theorem itms_len {n : Int} {l : List Itm} (h : itmsOk n l) : l.length ≤ 99 := by
  have := nodup_len 99 (l.map Itm.grp) h.2.1 (fun x hx => by obtain ⟨y, hy, rfl⟩ := List.mem_map.mp hx; exact (h.1 y hy).2.1)
  simpa using this
theorem inv_send {k : Nat} {a : Spk} {l : Lsn} {air : List Sig} (h : Inv k a l air) (hk : k < 100) : (send a 2).2 = 0 ∧ Inv (k + 1) a l (air ++ (send a 2).1) := by
  obtain ⟨p, hp, hr⟩ := h.ap
  obtain ⟨p1, p2, p3, p4, p5, p6, p7⟩ := h.aok
  have hhit : hitP a.peers 2 := by rw [hp, ← hr]; exact hitP_one p
  have e : send a 2 = (hello a 2 :: sendFrom a 2 (a.peers.getD (posP a.peers 2) ⟨0, 0, 0⟩).acked 0 a.items, 0) := by
    unfold send
    rw [if_neg (not_not_intro h.aok), if_neg (not_not_intro hhit)]
  rw [e]
  have h' := h.grow
  refine ⟨rfl, { h' with fly := fun x hx => ?_, len := ?_ }⟩
  · rcases List.mem_append.mp hx with hx | hx
    · exact h.fly x hx
    rcases List.mem_cons.mp hx with rfl | hx
    · refine ⟨?_, fun e => ?_, fun _ => ⟨h.ar, rfl, Int.le_refl _⟩, fun e => ?_⟩
      · have hn : sigNums (hello a 2) := by
          unfold sigNums hello
          rw [if_pos rfl]
          exact ⟨p2, p3, rfl, rfl, rfl⟩
        have he : sigEnds (hello a 2) := ⟨p1, by simp [hello], by simp [hello, h.ar]⟩
        unfold sigErr
        rw [if_neg (by simp [hello]), if_neg (not_not_intro ⟨he, hn⟩), if_neg (by simp [hello]), if_neg (by simp [hello])]
      · exact absurd e (by simp [hello])
      · exact absurd e (by simp [hello])
    · obtain ⟨x1, x2, x3, x4, x5, x6, x7, x8⟩ := send_ok p4 p3.2 a.items [] 0 rfl (by omega) (by simp) (fun y hy => by have := (p4.1 y hy).1.1; omega) x hx
      refine ⟨?_, fun e => by omega, fun _ => ⟨x2.trans h.ar, x3, by omega⟩, fun _ _ => x8⟩
      obtain ⟨i1, i2, i3⟩ := p4.1 _ x7
      simp only [sigItm] at i1 i2 i3
      have hn : sigNums x := by
        unfold sigNums
        rw [if_neg (by omega), if_pos x1, x4]
        exact ⟨p2, ⟨i1.1, by omega⟩, x6, x5, i2⟩
      have he : sigEnds x := ⟨by rw [x2]; exact p1, by omega, by rw [x2, x3, h.ar]; decide⟩
      unfold sigErr
      rw [if_neg (by omega), if_neg (not_not_intro ⟨he, hn⟩), if_pos x1]
      exact i3
  · have := h.len
    have := sendFrom_len (s := a) (to := 2) (acked := (a.peers.getD (posP a.peers 2) ⟨0, 0, 0⟩).acked) (r := a.items) (prev := 0)
    have := itms_len p4
    simp only [List.length_append, List.length_cons]; omega

theorem inv_ack {k : Nat} {a : Spk} {l : Lsn} {air : List Sig} (h : Inv k a l air) {x : Sig} (hx : AirOk a x) (hk : x.kind = 3) : (ack a x).2 = 0 ∧ Inv (k + 1) (ack a x).1 l air := by
  obtain ⟨p, hp, hr⟩ := h.ap
  obtain ⟨p1, p2, p3, p4, p5, p6, p7⟩ := h.aok
  obtain ⟨x1, x2⟩ := hx.ack hk
  have hhit : hitP a.peers x.src := by rw [hp, x1, ← hr]; exact hitP_one p
  have h0 : posP a.peers x.src = 0 := by rw [hp, posP_one, if_neg (by omega)]
  have hpo : perOk a.router a.last p := p6 p (by rw [hp]; simp)
  obtain ⟨k1, k2⟩ := ackP_ok hpo p3.1 hx.ok hk
  have e : ack a x = (⟨a.router, a.epoch, a.last, a.items, [ackP a x p]⟩, 0) := by
    unfold ack
    rw [if_neg (not_not_intro h.aok), if_neg (not_not_intro hx.ok), if_neg (by rw [hk, x2, h.ar]; decide), if_neg (not_not_intro hhit), h0, hp]
    rfl
  rw [e]
  have h' := h.grow
  refine ⟨rfl, { h' with aok := ⟨p1, p2, p3, p4, by simp, fun q hq => ?_, List.pairwise_singleton _ _⟩, ap := ⟨_, rfl, k2.trans hr⟩, fly := fun y hy => ?_ }⟩
  · rw [List.mem_singleton] at hq; subst hq; exact k1
  · obtain ⟨y1, y2, y3, y4⟩ := h.fly y hy
    exact ⟨y1, y2, y3, y4⟩

theorem sig_told {x : Sig} (hx : sigErr x = 0) (hk : x.kind ≠ 3) : (1 ≤ x.epoch ∧ x.epoch ≤ 1000000) ∧ (0 ≤ x.ver ∧ x.ver ≤ 1000000) ∧ (x.kind = 2 → 1 ≤ x.ver ∧ (1 ≤ x.grp ∧ x.grp ≤ 99) ∧ fltErr x.mode x.srcs = 0) := by
  unfold sigErr at hx
  split at hx
  · omega
  split at hx
  · omega
  rename_i h0 h1
  have hn := (Classical.not_not.mp h1).2
  unfold sigNums at hn
  split at hn
  · exact ⟨hn.1, hn.2.1, fun e => by omega⟩
  split at hn
  · rename_i h2
    rw [if_pos h2] at hx
    exact ⟨hn.1, ⟨by omega, hn.2.1.2⟩, fun _ => ⟨hn.2.1.1, hn.2.2.2.2, hx⟩⟩
  · omega

/-- What listener 2 has heard from speaker 1. -/
structure HP (a : Spk) (g : Hrd) : Prop where
  r : g.router = 1
  e : 0 ≤ g.epoch ∧ g.epoch ≤ a.epoch
  v : 0 ≤ g.ver ∧ g.ver ≤ 1000000
  i : itmsOk g.ver g.items
  o : g.epoch = a.epoch → HrdOk a.last a.items g
theorem hp_hear0 {a : Spk} {g : Hrd} {x : Sig} (ha : spkOk a) (h : HP a g) (hx : AirOk a x) (hk : x.kind ≠ 3) : HP a (hear0 g x) ∧ 1 ≤ (hear0 g x).epoch := by
  obtain ⟨x1, x2, x3⟩ := hx.tell hk
  obtain ⟨s1, s2, s3⟩ := sig_told hx.ok hk
  unfold hear0
  split
  · exact ⟨⟨x1, ⟨by simp only; omega, x3⟩, ⟨by simp, by simp⟩, ⟨fun y hy => by simp at hy, by simp, List.Pairwise.nil⟩, fun _ => HrdOk.nil ha.2.2.2.1 ha.2.2.1.1 _ _⟩, s1.1⟩
  · exact ⟨h, by omega⟩
theorem hp_hear1 {a : Spk} {g : Hrd} {x : Sig} (h : HP a g) (hx : AirOk a x) (hk : x.kind ≠ 3) : HP a (hear1 g x) ∧ (hear1 g x).epoch = g.epoch := by
  obtain ⟨s1, s2, s3⟩ := sig_told hx.ok hk
  unfold hear1
  split
  · rename_i c
    obtain ⟨c1, c2, c3, c4⟩ := c
    obtain ⟨t1, t2, t3⟩ := s3 c1
    exact ⟨⟨h.r, h.e, s2, h.i.put (x := sigItm x) c4 t1 t2 t3, fun e => (h.o e).hear (hx.upd c1 (c2.trans e)) c3 c4⟩, rfl⟩
  · exact ⟨h, rfl⟩
theorem heard_one {l : List Hrd} (h1 : ∀ h ∈ l, h.router = 1) (h2 : l.Pairwise fun x y => x.router < y.router) : l = [] ∨ ∃ h, l = [h] := by
  match l with
  | [] => exact .inl rfl
  | [h] => exact .inr ⟨h, rfl⟩
  | a :: b :: l =>
    rw [List.pairwise_cons] at h2
    have := h2.1 b (by simp)
    have := h1 a (by simp)
    have := h1 b (by simp)
    omega
theorem posH_one (p : Hrd) (r : Int) : posH [p] r = if p.router < r then 1 else 0 := by
  unfold posH
  by_cases h : p.router < r
  · rw [if_pos h, List.findIdx_cons]; simp [h]
  · rw [if_neg h, List.findIdx_cons]; simp [h]
theorem hitH_one (p : Hrd) : hitH [p] p.router := by
  have : posH [p] p.router = 0 := by rw [posH_one, if_neg (by omega)]
  unfold hitH
  rw [this]; exact ⟨by simp, rfl⟩
theorem Inv.heard1 {k : Nat} {a : Spk} {l : Lsn} {air : List Sig} (h : Inv k a l air) : l.heard = [] ∨ ∃ g, l.heard = [g] ∧ HP a g ∧ 1 ≤ g.epoch := by
  rcases heard_one (fun g hg => (h.heard g hg).1) h.lok.2.2.2.2 with e | ⟨g, e⟩
  · exact .inl e
  · have hg : g ∈ l.heard := by rw [e]; simp
    obtain ⟨g1, g2, g3⟩ := h.heard g hg
    obtain ⟨k1, k2, k3, k4, k5⟩ := h.lok.2.2.2.1 g hg
    exact .inr ⟨g, e, ⟨g1, ⟨by omega, g2⟩, k4, k5, g3⟩, k3.1⟩
theorem inv_hear {k : Nat} {a : Spk} {l : Lsn} {air : List Sig} (h : Inv k a l air) {x : Sig} (hx : AirOk a x) (hk : x.kind ≠ 3) :
    (hear l x).2 = 0 ∧ Inv (k + 1) a (hear l x).1.1 (air ++ [(hear l x).1.2]) := by
  obtain ⟨x1, x2, x3⟩ := hx.tell hk
  obtain ⟨l1, l2, l3, l4, l5⟩ := h.lok
  have key : ∃ g, HP a g ∧ (base l.heard x.src).set (posH l.heard x.src) (hearH l.heard x) = [hear1 (hear0 g x) x] ∧ hearH l.heard x = hear1 (hear0 g x) x ∧ ¬ (¬ hitH l.heard x.src ∧ l.heard.length = 12) := by
    rcases h.heard1 with e | ⟨g, e, g1, g2⟩
    · have hh : ¬ hitH l.heard x.src := by rw [e]; unfold hitH; simp
      have hp : posH l.heard x.src = 0 := by rw [e]; rfl
      refine ⟨⟨1, 0, 0, []⟩, ⟨rfl, ⟨by simp, by have := h.aok.2.1.1; simp only; omega⟩, ⟨by simp, by simp⟩, ⟨fun y hy => by simp at hy, by simp, List.Pairwise.nil⟩, fun e => by have := h.aok.2.1.1; simp only at e; omega⟩, ?_, ?_, ?_⟩
      · unfold hearH base
        rw [if_neg hh, hp, e, x1]; rfl
      · unfold hearH base
        rw [if_neg hh, hp, e, x1]; rfl
      · rw [e]; simp
    · have hh : hitH l.heard x.src := by rw [e, x1, ← g1.r]; exact hitH_one g
      have hp : posH l.heard x.src = 0 := by rw [e, posH_one, if_neg (by rw [g1.r]; omega)]
      refine ⟨g, g1, ?_, ?_, ?_⟩
      · unfold hearH base
        rw [if_pos hh, hp, e]; rfl
      · unfold hearH base
        rw [if_pos hh, hp, e]; rfl
      · exact fun q => q.1 hh
  obtain ⟨g, hg, e1, e2, e3⟩ := key
  obtain ⟨q1, q2⟩ := hp_hear0 h.aok hg hx hk
  obtain ⟨r1, r2⟩ := hp_hear1 q1 hx hk
  have hM := h.aok.2.1.2
  have e : hear l x = ((⟨l.router, l.epoch, [hear1 (hear0 g x) x]⟩, ⟨3, l.router, x.src, (hear1 (hear0 g x) x).epoch, (hear1 (hear0 g x) x).ver, 0, l.epoch, 0, 0, []⟩), 0) := by
    unfold hear
    rw [if_neg (not_not_intro h.lok), if_neg (not_not_intro hx.ok), if_neg (by rw [x2, h.lr]; simp [hk]), if_neg e3, e1, e2]
  rw [e]
  have h' := h.grow
  have r3 := r1.e
  refine ⟨rfl, { h' with lok := ⟨l1, l2, by simp, fun y hy => ?_, List.pairwise_singleton _ _⟩, lr := h.lr, le := h'.le, heard := fun y hy => ?_, fly := fun y hy => ?_, len := ?_ }⟩
  · rw [List.mem_singleton] at hy; subst hy
    exact ⟨by rw [r1.r]; decide, by rw [r1.r, h.lr]; decide, ⟨by omega, by omega⟩, r1.v, r1.i⟩
  · simp only [List.mem_singleton] at hy; subst hy
    exact ⟨r1.r, r3.2, r1.o⟩
  · rcases List.mem_append.mp hy with hy | hy
    · exact h.fly y hy
    rw [List.mem_singleton] at hy; subst hy
    refine ⟨?_, fun _ => ⟨h.lr, x1⟩, fun e => absurd rfl e, fun e => by simp at e⟩
    have hn : sigNums ⟨3, l.router, x.src, (hear1 (hear0 g x) x).epoch, (hear1 (hear0 g x) x).ver, 0, l.epoch, 0, 0, []⟩ := by
      unfold sigNums
      rw [if_neg (by simp), if_neg (by simp)]
      exact ⟨⟨by simp only; omega, by simp only; omega⟩, r1.v, rfl, l2, rfl⟩
    have he : sigEnds ⟨3, l.router, x.src, (hear1 (hear0 g x) x).epoch, (hear1 (hear0 g x) x).ver, 0, l.epoch, 0, 0, []⟩ := ⟨l1, by simp only [x1]; decide, by simp only [x1, h.lr]; decide⟩
    unfold sigErr
    rw [if_neg (by simp), if_neg (not_not_intro ⟨he, hn⟩), if_neg (by simp), if_neg (by simp)]
  · have := h.len
    simp only [List.length_append, List.length_singleton]; omega

/-- What the statement looks at after each step. -/
def holdsP (a : Spk) (l : Lsn) : Prop := ∀ h ∈ l.heard, h.router = a.router → h.epoch = a.epoch → (∀ x ∈ a.items, x.ver ≤ h.ver → x ∈ h.items) ∧ (agree a l ↔ h.ver = a.last)
theorem Inv.holds {k : Nat} {a : Spk} {l : Lsn} {air : List Sig} (h : Inv k a l air) : holdsP a l := by
  intro g hg hr he
  rcases h.heard1 with e | ⟨g', e, g1, g2⟩
  · rw [e] at hg; simp at hg
  rw [e, List.mem_singleton] at hg; subst hg
  have o := g1.o he
  refine ⟨o.has, ?_⟩
  have hh : hitH l.heard a.router := by rw [e, ← hr]; exact hitH_one g
  have ha : atH l.heard a.router = g := by
    unfold atH
    rw [e, posH_one, if_neg (by omega)]; rfl
  constructor
  · rintro ⟨_, _, _, _, h5, _⟩
    rw [ha] at h5; exact h5
  · intro hv
    exact ⟨h.aok, h.lok, hh, by rw [ha]; exact he, by rw [ha]; exact hv, by rw [ha]; exact o.eq h.aok.2.2.2.1 g1.i hv⟩
end Go.Proofs.Ytglfecmdoekabaa
