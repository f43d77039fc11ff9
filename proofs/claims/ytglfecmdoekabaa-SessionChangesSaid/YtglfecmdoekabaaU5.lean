/- Two round trips settle a speaker and a listener. -/
import Derived.Test.YtglfecmdoekabaaU4
import Derived.Test.YtglfecmdoekabaaU2
import Derived.Test.YtglfecmdoekabaaG16
namespace Go.Proofs.Ytglfecmdoekabaa
open Go Go.Am
set_option linter.unusedVariables false
set_option linter.unusedSimpArgs false

/-- What a speaker sends to a peer. -/
structure Sent (a : Spk) (to : Int) (x : Sig) : Prop where
  ok : sigErr x = 0
  kind : x.kind ≠ 3
  src : x.src = a.router
  dst : x.dst = to
  epoch : x.epoch = a.epoch
  tell : TellOk a.epoch a.last a.items x
theorem send_val {a : Spk} {to : Int} (ha : spkOk a) (hh : ∃ z ∈ a.peers, z.router = to) : send a to = (hello a to :: sendFrom a to (pOf a.peers to).acked 0 a.items, 0) ∧ ∀ x ∈ (send a to).1, Sent a to x := by
  have hhit := (hitP_iff ha.2.2.2.2.2.2).mpr hh
  obtain ⟨p1, p2, p3, p4, p5, p6, p7⟩ := ha
  obtain ⟨z, hz, hzr⟩ := hh
  obtain ⟨z1, z2, _⟩ := p6 z hz
  have e : send a to = (hello a to :: sendFrom a to (pOf a.peers to).acked 0 a.items, 0) := by
    unfold send
    rw [if_neg (not_not_intro ⟨p1, p2, p3, p4, p5, p6, p7⟩), if_neg (not_not_intro hhit)]
    rfl
  refine ⟨e, ?_⟩
  rw [e]
  intro x hx
  rcases List.mem_cons.mp hx with rfl | hx
  · refine ⟨?_, by simp [hello], rfl, rfl, rfl, Int.le_refl _, fun q => by simp [hello] at q⟩
    have hn : sigNums (hello a to) := by
      unfold sigNums hello
      rw [if_pos rfl]
      exact ⟨p2, p3, rfl, rfl, rfl⟩
    have he : sigEnds (hello a to) := ⟨p1, by rw [← hzr]; exact z1, by simp only [hello]; omega⟩
    unfold sigErr
    rw [if_neg (by simp [hello]), if_neg (not_not_intro ⟨he, hn⟩), if_neg (by simp [hello]), if_neg (by simp [hello])]
  · obtain ⟨x1, x2, x3, x4, x5, x6, x7, x8⟩ := send_ok p4 p3.2 a.items [] 0 rfl (by omega) (by simp) (fun y hy => by have := (p4.1 y hy).1.1; omega) x hx
    refine ⟨?_, by omega, x2, x3, x4, by omega, fun _ _ => x8⟩
    obtain ⟨i1, i2, i3⟩ := p4.1 _ x7
    simp only [sigItm] at i1 i2 i3
    have hn : sigNums x := by
      unfold sigNums
      rw [if_neg (by omega), if_pos x1, x4]
      exact ⟨p2, ⟨i1.1, by omega⟩, x6, x5, i2⟩
    have he : sigEnds x := ⟨by rw [x2]; exact p1, by omega, by omega⟩
    unfold sigErr
    rw [if_neg (by omega), if_neg (not_not_intro ⟨he, hn⟩), if_pos x1]
    exact i3
theorem ans_err {s d e v p : Int} (hs : 1 ≤ s ∧ s ≤ 99) (hd : 1 ≤ d ∧ d ≤ 99) (hne : s ≠ d) (he : 0 ≤ e ∧ e ≤ 1000000) (hv : 0 ≤ v ∧ v ≤ 1000000) (hp : 1 ≤ p ∧ p ≤ 1000000) : sigErr ⟨3, s, d, e, v, 0, p, 0, 0, []⟩ = 0 := by
  have hn : sigNums ⟨3, s, d, e, v, 0, p, 0, 0, []⟩ := by
    unfold sigNums
    rw [if_neg (by simp), if_neg (by simp)]
    exact ⟨he, hv, rfl, hp, rfl⟩
  unfold sigErr
  rw [if_neg (by simp), if_neg (not_not_intro ⟨⟨hs, hd, hne⟩, hn⟩), if_neg (by simp), if_neg (by simp)]
theorem Hears.ans_ok {l l' : Lsn} {x y : Sig} (hl : lsnOk l) (h : Hears l l' x y) (hx : sigErr x = 0) (hd : x.dst = l.router) : sigErr y = 0 := by
  obtain ⟨e1, e2, e3⟩ := sig_ends hx
  have hm := (h.mem _).mpr (.inl rfl)
  obtain ⟨k1, k2, k3, k4, k5⟩ := h.ok.2.2.2.1 _ hm
  rw [h.ans]
  exact ans_err hl.1 e1 (by omega) (by omega) k4 hl.2.1

/-- A speaker with one peer, and this peer's listener. -/
structure SI (s : Spk × Lsn) : Prop where
  aok : spkOk s.1
  ar : s.1.router = 1
  ap : s.1.peers.map Per.router = [2]
  lok : lsnOk s.2
  lr : s.2.router = 2
  lh : ∀ h ∈ s.2.heard, h.router = 1
  pi : PI s.1.epoch s.1.last s.1.items (pOf s.1.peers 2) s.2.epoch (gOf s.2.heard 1)
theorem SI.hp {s : Spk × Lsn} (h : SI s) : ∃ z ∈ s.1.peers, z.router = 2 := by
  have : (2 : Int) ∈ s.1.peers.map Per.router := by rw [h.ap]; simp
  obtain ⟨z, hz, e⟩ := List.mem_map.mp this
  exact ⟨z, hz, e⟩
/-- One signal goes over, and its answer back. -/
def rt1 (s : Spk × Lsn) (x : Sig) : Spk × Lsn := ((ack s.1 (hear s.2 x).1.2).1, (hear s.2 x).1.1)
def rt (s : Spk × Lsn) : Spk × Lsn := (send s.1 2).1.foldl rt1 s
structure Rt (s s' : Spk × Lsn) (x : Sig) : Prop where
  e1 : (hear s.2 x).2 = 0
  e2 : (ack s.1 (hear s.2 x).1.2).2 = 0
  si : SI s'
  epoch : s'.1.epoch = s.1.epoch
  last : s'.1.last = s.1.last
  items : s'.1.items = s.1.items
  le : s'.2.epoch = s.2.epoch
  g : gOf s'.2.heard 1 = hearG (gOf s.2.heard 1) x
  p : ∃ y : Sig, pOf s'.1.peers 2 = ackP s.1 y (pOf s.1.peers 2) ∧ y.epoch = (hearG (gOf s.2.heard 1) x).epoch ∧ y.ver = (hearG (gOf s.2.heard 1) x).ver ∧ y.pep = s.2.epoch
theorem rt1_ok {s : Spk × Lsn} (h : SI s) {x : Sig} (hx : Sent s.1 2 x) : Rt s (rt1 s x) x := by
  obtain ⟨a, l⟩ := s
  obtain ⟨aok, ar, ap, lok, lr, lh, pi⟩ := h
  have hp : ∃ z ∈ a.peers, z.router = 2 := SI.hp ⟨aok, ar, ap, lok, lr, lh, pi⟩
  simp only at *
  have hs1 : x.src = 1 := hx.src.trans ar
  have hlen : l.heard.length < 12 := by
    rcases heard_one lh lok.2.2.2.2 with e | ⟨g, e⟩ <;> rw [e] <;> simp
  obtain ⟨h1, h2⟩ := hear_val lok hx.ok hx.kind (hx.dst.trans lr.symm) (.inr hlen)
  have hy := h2.ans
  have hyo := h2.ans_ok lok hx.ok (hx.dst.trans lr.symm)
  generalize hyy : (hear l x).1.2 = y at *
  have hgl := h2.self lok
  rw [hs1] at hgl hy
  have pi' := pi.hear hx.ok hx.kind hx.tell
  have y1 : y.src = 2 := by rw [hy]; exact lr
  have y2 : y.dst = 1 := by rw [hy]
  have y3 : y.kind = 3 := by rw [hy]
  have y4 : y.epoch = (hearG (gOf l.heard 1) x).epoch := by rw [hy]
  have y5 : y.ver = (hearG (gOf l.heard 1) x).ver := by rw [hy]
  have y6 : y.pep = l.epoch := by rw [hy]
  obtain ⟨k1, k2⟩ := ack_val aok hyo y3 (y2.trans ar.symm) (by rw [y1]; exact hp)
  have hself := k2.self aok (by rw [y1]; exact hp)
  rw [y1] at hself
  have hans : AckOk a.epoch l.epoch (hearG (gOf l.heard 1) x) y := by rw [hy]; exact pi'.answer
  have hv : 0 ≤ y.ver := by rw [y5]; exact pi'.g2
  have pi2 := pi'.ack (a := a) rfl rfl hans hv
  have er : rt1 (a, l) x = ((ack a y).1, (hear l x).1.1) := by unfold rt1; simp only; rw [hyy]
  rw [er]
  refine ⟨h1, by simp only [hyy]; exact k1, ⟨k2.ok, k2.router.trans ar, k2.routers.trans ap, h2.ok, h2.router.trans lr, fun z hz => ?_, ?_⟩, k2.epoch, k2.last, k2.items, h2.epoch, hgl, ⟨y, hself, y4, y5, y6⟩⟩
  · rcases (h2.mem z).mp hz with rfl | ⟨hz, _⟩
    · exact (hearG_router (gOf_router lok.2.2.2.2)).trans hs1
    · exact lh z hz
  · show PI _ _ _ (pOf (ack a y).1.peers 2) (hear l x).1.1.epoch (gOf (hear l x).1.1.heard 1)
    rw [k2.epoch, k2.last, k2.items, h2.epoch, hgl, hself]
    exact pi2
theorem Sent.cong {a b : Spk} {x : Sig} (h : Sent a 2 x) (h0 : b.router = a.router) (h1 : b.epoch = a.epoch) (h2 : b.last = a.last) (h3 : b.items = a.items) : Sent b 2 x :=
  ⟨h.ok, h.kind, h.src.trans h0.symm, h.dst, h.epoch.trans h1.symm, by rw [h1, h2, h3]; exact h.tell⟩
structure Rts (s s' : Spk × Lsn) (l : List Sig) : Prop where
  si : SI s'
  epoch : s'.1.epoch = s.1.epoch
  last : s'.1.last = s.1.last
  items : s'.1.items = s.1.items
  le : s'.2.epoch = s.2.epoch
  g : gOf s'.2.heard 1 = hearL (gOf s.2.heard 1) l
  p : l ≠ [] → (pOf s'.1.peers 2).epoch = s.2.epoch ∧ ((gOf s'.2.heard 1).epoch = s.1.epoch → (gOf s'.2.heard 1).ver = s.1.last → Done s.1.epoch s.1.last (pOf s'.1.peers 2) s.2.epoch (gOf s'.2.heard 1))
theorem rts_ok : ∀ {l : List Sig} {s : Spk × Lsn}, SI s → (∀ x ∈ l, Sent s.1 2 x) → Rts s (l.foldl rt1 s) l ∧ ∀ (i : Nat) (x : Sig), l[i]? = some x → (hear ((l.take i).foldl rt1 s).2 x).2 = 0 ∧ (ack ((l.take i).foldl rt1 s).1 (hear ((l.take i).foldl rt1 s).2 x).1.2).2 = 0
  | [], s, h, _ => ⟨⟨h, rfl, rfl, rfl, rfl, rfl, fun q => absurd rfl q⟩, fun i x hx => by simp at hx⟩
  | x :: l, s, h, hl => by
    have r := rt1_ok h (hl x (by simp))
    obtain ⟨q, q'⟩ := rts_ok (l := l) (s := rt1 s x) r.si fun y hy => (hl y (by simp [hy])).cong (by rw [r.si.ar, h.ar]) r.epoch r.last r.items
    refine ⟨⟨q.si, q.epoch.trans r.epoch, q.last.trans r.last, q.items.trans r.items, q.le.trans r.le, ?_, fun _ => ?_⟩, fun i y hy => ?_⟩
    · rw [List.foldl_cons, q.g, r.g]; rfl
    · rw [List.foldl_cons]
      by_cases e : l = []
      · subst e
        obtain ⟨y, p1, p2, p3, p4⟩ := r.p
        have hp := h.pi.p1
        refine ⟨?_, fun g1 g2 => ?_⟩
        · show (pOf (rt1 s x).1.peers 2).epoch = _
          rw [p1]
          unfold ackP
          split
          · exact p4
          · rw [if_pos (by omega)]; simp only; omega
        · have g1 : (gOf (rt1 s x).2.heard 1).epoch = s.1.epoch := g1
          have g2 : (gOf (rt1 s x).2.heard 1).ver = s.1.last := g2
          show Done _ _ (pOf (rt1 s x).1.peers 2) _ (gOf (rt1 s x).2.heard 1)
          rw [p1]
          have pi' := h.pi.hear (hl x (by simp)).ok (hl x (by simp)).kind (hl x (by simp)).tell
          rw [r.g] at g1 g2 ⊢
          exact pi'.done_ack rfl rfl ⟨g1, g2⟩ (p2.trans g1) (p3.trans g2) p4
      · have := q.p e
        rw [r.epoch, r.last, r.le] at this
        exact this
    · cases i with
      | zero => simp at hy; subst hy; exact ⟨r.e1, r.e2⟩
      | succ i =>
        have := q' i y (by simpa using hy)
        simpa using this
theorem rt_ok {s : Spk × Lsn} (h : SI s) : Rts s (rt s) (send s.1 2).1 := (rts_ok h (send_val h.aok h.hp).2).1
theorem hearL_epoch {e : Int} {g : Hrd} {x : Sig} {l : List Sig} (h : g.epoch ≤ e) (hx : x.epoch = e) (hl : ∀ y ∈ l, y.epoch ≤ e) : (hearL g (x :: l)).epoch = e :=
  ((hearL_grows (g := hearG g x) hl).now (hearG_epoch h hx)).1
theorem settle {s : Spk × Lsn} (h : SI s) : SI (rt (rt s)) ∧ Done (rt (rt s)).1.epoch (rt (rt s)).1.last (pOf (rt (rt s)).1.peers 2) (rt (rt s)).2.epoch (gOf (rt (rt s)).2.heard 1) := by
  have r1 := rt_ok h
  obtain ⟨v1, w1⟩ := send_val h.aok h.hp
  have r2 := rt_ok r1.si
  obtain ⟨v2, w2⟩ := send_val r1.si.aok r1.si.hp
  refine ⟨r2.si, ?_⟩
  have ne1 : (send s.1 2).1 ≠ [] := by rw [v1]; simp
  have ne2 : (send (rt s).1 2).1 ≠ [] := by rw [v2]; simp
  have pe := (r1.p ne1).1
  have ge : (gOf (rt s).2.heard 1).epoch = (rt s).1.epoch := by
    rw [r1.g, r1.epoch, v1]
    exact hearL_epoch h.pi.g1.2 rfl fun y hy => by rw [(w1 y (by rw [v1]; simp [hy])).epoch]; exact Int.le_refl _
  have hP : PI (rt s).1.epoch (rt s).1.last (rt s).1.items (pOf (rt (rt s)).1.peers 2) (rt (rt s)).2.epoch (gOf (rt (rt s)).2.heard 1) := by
    have := r2.si.pi
    rw [r2.epoch, r2.last, r2.items] at this
    exact this
  have full := r1.si.pi.full (s := (rt s).1) (to := 2) (acked := (pOf (rt s).1.peers 2).acked) (g' := gOf (rt (rt s)).2.heard 1) rfl rfl rfl r1.si.pi.g1.2
    (r1.si.pi.p3 (by rw [pe, r1.le])) (by rw [r2.g, v2]) hP.g2 hP.g4
  have := (r2.p ne2).2 full.1 full.2
  rw [r2.epoch, r2.last, r2.le]
  exact this
theorem Done.agree {a : Spk} {l : Lsn} {q : Int} (ha : spkOk a) (hl : lsnOk l) (hP : PI a.epoch a.last a.items (pOf a.peers q) l.epoch (gOf l.heard a.router)) (hg : (gOf l.heard a.router).epoch = a.epoch ∧ (gOf l.heard a.router).ver = a.last) :
    Go.Proofs.Ytglfecmdoekabaa.agree a l ∧ (gOf l.heard a.router).items = a.items ∧ atH l.heard a.router = gOf l.heard a.router ∧ hitH l.heard a.router := by
  have hh : ∃ z ∈ l.heard, z.router = a.router := by
    refine Classical.byContradiction fun hn => ?_
    have := gOf_no hl.2.2.2.2 hn
    rw [this] at hg
    have := hP.e1
    simp only at hg
    omega
  have hit := (hitH_iff hl.2.2.2.2).mpr hh
  have hat : atH l.heard a.router = gOf l.heard a.router := by
    unfold atH gOf base
    rw [if_pos hit]
  have hi := (hP.g4 hg.1).eq hP.io hP.g3 hg.2
  exact ⟨⟨ha, hl, hit, by rw [hat]; exact hg.1, by rw [hat]; exact hg.2, by rw [hat]; exact hi⟩, hi, hat, hit⟩
theorem sendFrom_none {s : Spk} {to acked : Int} : ∀ {r : List Itm} {prev : Int}, (∀ y ∈ r, y.ver ≤ acked) → sendFrom s to acked prev r = []
  | [], _, _ => rfl
  | y :: r, prev, h => by
    have := h y (by simp)
    rw [sendFrom, if_neg (by omega), sendFrom_none fun z hz => h z (by simp [hz])]
    rfl
/-- What the statement looks at in the end. -/
theorem settled {s : Spk × Lsn} (h : SI s) (hd : Done s.1.epoch s.1.last (pOf s.1.peers 2) s.2.epoch (gOf s.2.heard 1)) :
    agree s.1 s.2 ∧ (∃ p, s.1.peers = [p] ∧ p.acked = s.1.last) ∧ (send s.1 2).2 = 0 ∧ (send s.1 2).1.length = 1 ∧ knownW s.2 1 = wantsOf s.1.items := by
  have hP := h.pi
  have hg : (gOf s.2.heard s.1.router).epoch = s.1.epoch ∧ (gOf s.2.heard s.1.router).ver = s.1.last := by rw [h.ar]; exact ⟨hd.ge, hd.gv⟩
  obtain ⟨a1, a2, a3, a4⟩ := Done.agree (q := 2) h.aok h.lok (by rw [h.ar]; exact hP) hg
  have hpp : s.1.peers = [pOf s.1.peers 2] := by
    have := h.ap
    generalize s.1.peers = ps at this
    cases ps with
    | nil => simp at this
    | cons p r =>
      simp only [List.map_cons, List.cons.injEq, List.map_eq_nil_iff] at this
      obtain ⟨hp, rfl⟩ := this
      have := pOf_mem (l := [p]) (z := p) (List.pairwise_singleton _ _) (by simp)
      rw [← hp, this]
  obtain ⟨v, w⟩ := send_val h.aok h.hp
  refine ⟨a1, ⟨_, hpp, hd.pa⟩, by rw [v], ?_, ?_⟩
  · rw [v, sendFrom_none fun y hy => ?_]
    · rfl
    · rw [hd.pa]; exact (hP.io.1 y hy).1.2
  · rw [h.ar] at a2 a3 a4
    unfold knownW
    rw [if_pos ⟨h.lok, a4⟩, a3, a2]
end Go.Proofs.Ytglfecmdoekabaa
