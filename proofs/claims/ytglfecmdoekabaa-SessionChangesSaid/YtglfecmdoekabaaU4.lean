/- A pair of a speaker and a listener: what stays true, and how it settles. -/
import Derived.Test.YtglfecmdoekabaaU3
namespace Go.Proofs.Ytglfecmdoekabaa
open Go Go.Am
set_option linter.unusedVariables false
set_option linter.unusedSimpArgs false

/-- The last item has the last version. -/
def LastOk (n : Int) (l : List Itm) : Prop := (l = [] → n = 0) ∧ ∀ x, l.getLast? = some x → x.ver = n
theorem LastOk.nil : LastOk 0 [] := ⟨fun _ => rfl, fun x h => by simp at h⟩
theorem LastOk.put {n : Int} {l : List Itm} {x : Itm} (h : x.ver = n) : LastOk n (put1 l x) := by
  unfold put1
  exact ⟨fun e => by simp at e, fun y hy => by simp at hy; rw [← hy]; exact h⟩
theorem LastOk.chg : ∀ {c : List Wnt} {n : Int} {l : List Itm}, LastOk n l → LastOk (c.foldl chg1 (n, l)).1 (c.foldl chg1 (n, l)).2
  | [], n, l, h => h
  | w :: c, n, l, h => by
    rw [List.foldl_cons]
    unfold chg1
    split
    · exact LastOk.chg h
    · exact LastOk.chg (LastOk.put rfl)
theorem LastOk.restart (w : List Wnt) : LastOk w.length (w.mapIdx wItm) := by
  refine ⟨fun e => by have := congrArg List.length e; simp at this; simp [this], fun x hx => ?_⟩
  rw [List.getLast?_eq_getElem?] at hx
  rw [List.length_mapIdx, List.getElem?_mapIdx] at hx
  cases e : w[w.length - 1]? with
  | none => rw [e] at hx; simp at hx
  | some y =>
    rw [e] at hx
    simp at hx
    have := (List.getElem?_eq_some_iff.mp e).1
    rw [← hx]
    simp only [wItm]; omega
theorem LastOk.all {n v : Int} {l : List Itm} (h : LastOk n l) (h0 : 0 ≤ v) (hv : ∀ x ∈ l, x.ver ≤ v) : n ≤ v := by
  cases e : l.getLast? with
  | none => rw [List.getLast?_eq_none_iff] at e; rw [h.1 e]; exact h0
  | some x =>
    have := h.2 x e
    have := hv x (List.mem_of_getLast? e)
    omega

/-- A signal that tells something, of a speaker with the epoch e, the last version n and the items it. -/
structure TellOk (e n : Int) (it : List Itm) (x : Sig) : Prop where
  ep : x.epoch ≤ e
  upd : x.kind = 2 → x.epoch = e → UpdOk n it x
/-- An acknowledgement, of a listener with the epoch le that has heard g. -/
structure AckOk (e le : Int) (g : Hrd) (x : Sig) : Prop where
  ep : x.epoch ≤ e
  pe : x.pep ≤ le
  now : x.pep = le → x.epoch = e → g.epoch = e ∧ x.ver ≤ g.ver
structure PI (e n : Int) (it : List Itm) (p : Per) (le : Int) (g : Hrd) : Prop where
  e1 : 1 ≤ e
  n0 : 0 ≤ n
  io : itmsOk n it
  last : LastOk n it
  p1 : p.epoch ≤ le
  p2 : 0 ≤ p.acked
  p3 : p.epoch = le → p.acked = 0 ∨ (g.epoch = e ∧ p.acked ≤ g.ver)
  g1 : 0 ≤ g.epoch ∧ g.epoch ≤ e
  g2 : 0 ≤ g.ver
  g3 : itmsOk g.ver g.items
  g4 : g.epoch = e → HrdOk n it g
section
variable {e n : Int} {it : List Itm} {p : Per} {le : Int} {g : Hrd} {x : Sig}
theorem PI.change (h : PI e n it p le g) {m : Int} {k : List Itm} (ha : Adv n it m k) (h0 : 0 ≤ m) (hk : itmsOk m k) (hl : LastOk m k) : PI e m k p le g :=
  { h with n0 := h0, io := hk, last := hl, g4 := fun q => (h.g4 q).adv ha }
theorem TellOk.change (h : TellOk e n it x) {m : Int} {k : List Itm} (ha : Adv n it m k) : TellOk e m k x := ⟨h.ep, fun q1 q2 => (h.upd q1 q2).adv ha⟩
theorem PI.restart (h : PI e n it p le g) {m : Int} {k : List Itm} (h0 : 0 ≤ m) (hk : itmsOk m k) (hl : LastOk m k) (q : Int) (hle : 0 ≤ le) : PI (e + 1) m k ⟨q, 0, 0⟩ le g :=
  { e1 := by have := h.e1; omega, n0 := h0, io := hk, last := hl, p1 := hle, p2 := by simp, p3 := fun _ => .inl rfl, g1 := by have := h.g1; omega, g2 := h.g2, g3 := h.g3, g4 := fun q => by have := h.g1; omega }
theorem TellOk.restart (h : TellOk e n it x) {m : Int} {k : List Itm} : TellOk (e + 1) m k x := ⟨by have := h.ep; omega, fun _ q => by have := h.ep; omega⟩
theorem AckOk.restart (h : AckOk e le g x) : AckOk (e + 1) le g x := ⟨by have := h.ep; omega, h.pe, fun _ q => by have := h.ep; omega⟩
theorem PI.lapse (h : PI e n it p le g) (r : Int) : PI e n it p (le + 1) ⟨r, 0, 0, []⟩ :=
  { h with p1 := by have := h.p1; omega, p3 := fun q => by have := h.p1; omega, g1 := ⟨by simp, by have := h.e1; simp only; omega⟩, g2 := by simp, g3 := ⟨fun y hy => by simp at hy, by simp, List.Pairwise.nil⟩, g4 := fun q => by have := h.e1; simp only at q; omega }
theorem AckOk.lapse (h : AckOk e le g x) {g' : Hrd} : AckOk e (le + 1) g' x := ⟨h.ep, by have := h.pe; omega, fun q => by have := h.pe; omega⟩

/-- What is heard only grows. -/
structure Grows (e : Int) (g g' : Hrd) : Prop where
  now : g.epoch = e → g'.epoch = e ∧ g.ver ≤ g'.ver
theorem AckOk.grow (h : AckOk e le g x) {g' : Hrd} (hg : Grows e g g') : AckOk e le g' x := ⟨h.ep, h.pe, fun q1 q2 => by
  obtain ⟨a, b⟩ := h.now q1 q2
  obtain ⟨c, d⟩ := hg.now a
  exact ⟨c, by omega⟩⟩
theorem hearG_grows (hx : x.epoch ≤ e) : Grows e g (hearG g x) := by
  refine ⟨fun q => ?_⟩
  have h0 : hear0 g x = g := if_neg (by omega)
  unfold hearG
  rw [h0]
  unfold hear1
  split
  · rename_i c; exact ⟨q, by simp only; omega⟩
  · exact ⟨q, Int.le_refl _⟩
theorem PI.hear (h : PI e n it p le g) (hx : sigErr x = 0) (hk : x.kind ≠ 3) (ht : TellOk e n it x) : PI e n it p le (hearG g x) := by
  obtain ⟨s1, s2, s3⟩ := sig_told hx hk
  have hgr := hearG_grows (g := g) ht.ep
  have h0 : PI e n it p le (hear0 g x) := by
    unfold hear0
    split
    · rename_i c
      have := h.g1; have := ht.ep
      exact { h with p3 := fun q => (h.p3 q).imp_right fun q => by omega, g1 := ⟨by simp only; omega, ht.ep⟩, g2 := by simp, g3 := ⟨fun y hy => by simp at hy, by simp, List.Pairwise.nil⟩, g4 := fun _ => HrdOk.nil h.io h.n0 _ _ }
    · exact h
  unfold hearG
  generalize hear0 g x = g0 at h0 ⊢
  unfold hear1
  split
  · rename_i c
    obtain ⟨c1, c2, c3, c4⟩ := c
    obtain ⟨t1, t2, t3⟩ := s3 c1
    exact { h0 with p3 := fun q => (h0.p3 q).imp_right fun q => ⟨q.1, by simp only; omega⟩, g1 := h0.g1, g2 := s2.1, g3 := h0.g3.put (x := sigItm x) c4 t1 t2 t3, g4 := fun q => (h0.g4 q).hear (ht.upd c1 (c2.trans q)) c3 c4 }
  · exact h0
/-- The answer of a listener. -/
theorem PI.answer (h : PI e n it p le g) {r q : Int} : AckOk e le g ⟨3, r, q, g.epoch, g.ver, 0, le, 0, 0, []⟩ := ⟨h.g1.2, Int.le_refl _, fun _ q => ⟨q, Int.le_refl _⟩⟩
theorem PI.ack (h : PI e n it p le g) {a : Spk} (hae : a.epoch = e) (hal : a.last = n) (ha : AckOk e le g x) (hv : 0 ≤ x.ver) : PI e n it (ackP a x p) le g := by
  subst hae; subst hal
  have hV : 0 ≤ ackV a x ∧ (x.pep = le → ackV a x = 0 ∨ (g.epoch = a.epoch ∧ ackV a x ≤ g.ver)) := by
    unfold ackV
    split
    · rename_i c; exact ⟨hv, fun q => .inr (ha.now q c.1)⟩
    · exact ⟨Int.le_refl _, fun _ => .inl rfl⟩
  unfold ackP
  split
  · exact { h with p1 := ha.pe, p2 := hV.1, p3 := hV.2 }
  split
  · rename_i _ c
    refine { h with p1 := h.p1, p2 := ?_, p3 := fun q => ?_ }
    · simp only [maxI]; split
      · exact hV.1
      · exact h.p2
    · simp only [maxI] at q ⊢
      split
      · exact hV.2 (c.trans q)
      · exact h.p3 q
  · exact h

/-! ### How a pair settles -/
/-- A listener hears a list of signals. -/
def hearL (g : Hrd) (l : List Sig) : Hrd := l.foldl hearG g
theorem hearL_grows : ∀ {l : List Sig} {g : Hrd}, (∀ x ∈ l, x.epoch ≤ e) → Grows e g (hearL g l)
  | [], g, _ => ⟨fun q => ⟨q, Int.le_refl _⟩⟩
  | x :: l, g, h => ⟨fun q => by
    obtain ⟨a, b⟩ := (hearG_grows (g := g) (h x (by simp))).now q
    obtain ⟨c, d⟩ := (hearL_grows (l := l) (g := hearG g x) fun y hy => h y (by simp [hy])).now a
    exact ⟨c, by simp only [hearL, List.foldl_cons] at d ⊢; omega⟩⟩
theorem hearG_epoch (h : g.epoch ≤ e) (hx : x.epoch = e) : (hearG g x).epoch = e := by
  unfold hearG hear1 hear0
  by_cases c : g.epoch < x.epoch
  · rw [if_pos c]; split <;> exact hx
  · rw [if_neg c]
    split
    · simp only; omega
    · omega
/-- The updates behind what was acknowledged bring a listener to the last version, if it has what was acknowledged. -/
theorem hearL_upd {s : Spk} {to acked : Int} (hs : s.epoch = e) : ∀ (r d : List Itm) (prev : Int) (g : Hrd), g.epoch = e → acked ≤ g.ver → prev ≤ g.ver → (∀ y ∈ d, y.ver ≤ g.ver) →
    (hearL g (sendFrom s to acked prev r)).epoch = e ∧ g.ver ≤ (hearL g (sendFrom s to acked prev r)).ver ∧ ∀ y ∈ d ++ r, y.ver ≤ (hearL g (sendFrom s to acked prev r)).ver
  | [], d, prev, g, h1, h2, h3, h4 => ⟨h1, Int.le_refl _, by simpa [sendFrom, hearL] using h4⟩
  | y :: r, d, prev, g, h1, h2, h3, h4 => by
    by_cases c : acked < y.ver
    · have e1 : sendFrom s to acked prev (y :: r) = upd1 s to prev y :: sendFrom s to acked y.ver r := by simp [sendFrom, c]
      rw [e1]
      have hg := hearG_grows (g := g) (x := upd1 s to prev y) (e := e) (by simp only [upd1]; omega)
      obtain ⟨q1, q2⟩ := hg.now h1
      have hy : y.ver ≤ (hearG g (upd1 s to prev y)).ver := by
        unfold hearG
        rw [show hear0 g (upd1 s to prev y) = g from if_neg (by simp only [upd1]; omega)]
        unfold hear1
        split
        · exact Int.le_refl _
        · rename_i c2
          refine Classical.byContradiction fun c3 => c2 ⟨rfl, by simp only [upd1]; omega, h3, by simp only [upd1]; omega⟩
      obtain ⟨r1, r2, r3⟩ := hearL_upd (to := to) (acked := acked) hs r (d ++ [y]) y.ver (hearG g (upd1 s to prev y)) q1 (by omega) hy fun z hz => by
        rcases List.mem_append.mp hz with hz | hz
        · have := h4 z hz; omega
        · rw [List.mem_singleton] at hz; subst hz; exact hy
      refine ⟨r1, ?_, fun z hz => r3 z (by simpa using hz)⟩
      show g.ver ≤ (hearL (hearG g (upd1 s to prev y)) _).ver
      omega
    · have e1 : sendFrom s to acked prev (y :: r) = sendFrom s to acked y.ver r := by simp [sendFrom, c]
      rw [e1]
      obtain ⟨r1, r2, r3⟩ := hearL_upd (to := to) (acked := acked) hs r (d ++ [y]) y.ver g h1 h2 (by omega) fun z hz => by
        rcases List.mem_append.mp hz with hz | hz
        · exact h4 z hz
        · rw [List.mem_singleton] at hz; subst hz; omega
      exact ⟨r1, r2, fun z hz => r3 z (by simpa using hz)⟩
/-- What a speaker sends brings a listener to the last version. -/
theorem PI.full (h : PI e n it p le g) {s : Spk} {to acked : Int} (he : s.epoch = e) (hn : s.last = n) (hi : s.items = it) (hg : g.epoch ≤ e) (h3 : acked = 0 ∨ (g.epoch = e ∧ acked ≤ g.ver))
    {g' : Hrd} (hg' : g' = hearL g (hello s to :: sendFrom s to acked 0 s.items)) (hg2 : 0 ≤ g'.ver) (hg4 : g'.epoch = e → HrdOk n it g') : g'.epoch = e ∧ g'.ver = n := by
  have e0 : hearL g (hello s to :: sendFrom s to acked 0 s.items) = hearL (hearG g (hello s to)) (sendFrom s to acked 0 s.items) := rfl
  have h1 : (hearG g (hello s to)).epoch = e := hearG_epoch hg (by simp only [hello]; exact he)
  have h2 : acked ≤ (hearG g (hello s to)).ver ∧ 0 ≤ (hearG g (hello s to)).ver := by
    have hv : 0 ≤ (hearG g (hello s to)).ver := by
      unfold hearG hear1 hear0
      have := h.g2
      split <;> split <;> first | simp [hello]; done | simp [hello] at * <;> omega
    refine ⟨?_, hv⟩
    rcases h3 with rfl | ⟨q1, q2⟩
    · exact hv
    · have := (hearG_grows (g := g) (x := hello s to) (e := e) (by simp only [hello]; omega)).now q1
      omega
  obtain ⟨r1, r2, r3⟩ := hearL_upd (to := to) (acked := acked) he s.items [] 0 (hearG g (hello s to)) h1 h2.1 h2.2 (by simp)
  rw [← e0, ← hg'] at r1 r2 r3
  rw [List.nil_append, hi] at r3
  have := h.last.all hg2 r3
  have := (hg4 r1).le
  exact ⟨r1, by omega⟩
/-- The pair is settled: the listener has all, and the speaker knows it. -/
structure Done (e n : Int) (p : Per) (le : Int) (g : Hrd) : Prop where
  ge : g.epoch = e
  gv : g.ver = n
  pe : p.epoch = le
  pa : p.acked = n
theorem Done.hear (h : PI e n it p le g) (hd : Done e n p le g) (hk : x.kind ≠ 3) (ht : TellOk e n it x) : hearG g x = g := by
  have h0 : hear0 g x = g := if_neg (by have := ht.ep; have := hd.ge; omega)
  unfold hearG
  rw [h0]
  unfold hear1
  rw [if_neg]
  rintro ⟨c1, c2, c3, c4⟩
  have := (ht.upd c1 (c2.trans hd.ge)).le
  have := hd.gv
  omega
theorem Done.ack (hd : Done e n p le g) (h0 : 0 ≤ n) {a : Spk} (hae : a.epoch = e) (hal : a.last = n) (ha : AckOk e le g x) : ackP a x p = p := by
  obtain ⟨d1, d2, d3, d4⟩ := hd
  have hpe := ha.pe
  unfold ackP
  rw [if_neg (by omega)]
  split
  · rename_i c
    have : maxI p.acked (ackV a x) = p.acked := by
      unfold maxI ackV
      by_cases q2 : x.epoch = a.epoch ∧ x.ver ≤ a.last
      · rw [if_pos q2, if_neg]
        have := ha.now (by omega) (by omega); omega
      · rw [if_neg q2, if_neg (by omega)]
    rw [this]
  · rfl
/-- An acknowledgement of everything, in the listener's present epoch. -/
theorem PI.done_ack (h : PI e n it p le g) {a : Spk} (hae : a.epoch = e) (hal : a.last = n) (hg : g.epoch = e ∧ g.ver = n) (h1 : x.epoch = e) (h2 : x.ver = n) (h3 : x.pep = le) : Done e n (ackP a x p) le g := by
  have hV : ackV a x = n := by unfold ackV; rw [if_pos ⟨by omega, by omega⟩]; exact h2
  have hp := h.p1
  refine ⟨hg.1, hg.2, ?_, ?_⟩
  · unfold ackP
    split
    · exact h3
    · rw [if_pos (by omega)]; simp only; omega
  · unfold ackP
    split
    · exact hV
    · rename_i c
      rw [if_pos (by omega)]
      simp only [maxI, hV]
      have h3' := h.p3 (by omega)
      have := h.n0
      split
      · rfl
      · rename_i q; omega
end
end Go.Proofs.Ytglfecmdoekabaa
