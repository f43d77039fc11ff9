/- Sorted lists of peers and of what was heard; a pair of a speaker and a listener: what stays true of it, and how it settles. -/
import Derived.Test.YtglfecmdoekabaaV5
namespace Go.Proofs.Ytglfecmdoekabaa
open Go Go.Am
set_option linter.unusedVariables false
set_option linter.unusedSimpArgs false

/-! ### Positions in lists with ascending keys -/
section
variable {α : Type} (key : α → Int)
def posK (l : List α) (r : Int) : Nat := l.findIdx fun p => !decide (key p < r)
variable {key}
theorem posK_lt {l : List α} {r : Int} {i : Nat} (h : i < posK key l r) (hi : i < l.length) : key l[i] < r := by
  have := List.not_of_lt_findIdx h
  simpa using this
theorem posK_ge {l : List α} {r : Int} (ho : l.Pairwise fun x y => key x < key y) {i : Nat} (hi : i < l.length) (h : posK key l r ≤ i) : r ≤ key l[i] := by
  have hp : posK key l r < l.length := by omega
  have h1 : r ≤ key l[posK key l r] := by
    have : (!decide (key l[posK key l r] < r)) = true := List.findIdx_getElem (w := hp)
    simpa using this
  rcases Nat.eq_or_lt_of_le h with e | e
  · simp only [e] at h1; exact h1
  · have := List.pairwise_iff_getElem.mp ho _ _ hp hi e
    omega
theorem posK_eq {l : List α} {r : Int} (ho : l.Pairwise fun x y => key x < key y) {i : Nat} (hi : i < l.length) (h : key l[i] = r) : posK key l r = i := by
  rcases Nat.lt_trichotomy (posK key l r) i with e | e | e
  · have h1 := posK_ge ho (r := r) (i := posK key l r) (by omega) (Nat.le_refl _)
    have := List.pairwise_iff_getElem.mp ho _ _ (by omega) hi e
    omega
  · exact e
  · have := posK_lt e hi; omega
theorem hitK_iff {l : List α} {r : Int} {d : α} (ho : l.Pairwise fun x y => key x < key y) : (posK key l r < l.length ∧ key (l.getD (posK key l r) d) = r) ↔ ∃ z ∈ l, key z = r := by
  constructor
  · rintro ⟨h1, h2⟩
    rw [List.getD_eq_getElem?_getD, List.getElem?_eq_getElem h1] at h2
    exact ⟨_, List.getElem_mem h1, h2⟩
  · rintro ⟨z, hz, rfl⟩
    obtain ⟨i, hi, rfl⟩ := List.getElem_of_mem hz
    rw [posK_eq ho hi rfl]
    exact ⟨hi, by rw [List.getD_eq_getElem?_getD, List.getElem?_eq_getElem hi]; rfl⟩
theorem atK_eq {l : List α} {d z : α} (ho : l.Pairwise fun x y => key x < key y) (hz : z ∈ l) : l.getD (posK key l (key z)) d = z := by
  obtain ⟨i, hi, rfl⟩ := List.getElem_of_mem hz
  rw [posK_eq ho hi rfl, List.getD_eq_getElem?_getD, List.getElem?_eq_getElem hi]; rfl
theorem mem_setK {l : List α} {r : Int} {z' : α} (ho : l.Pairwise fun x y => key x < key y) (hh : ∃ z ∈ l, key z = r) (z : α) : z ∈ l.set (posK key l r) z' ↔ z = z' ∨ z ∈ l ∧ key z ≠ r := by
  obtain ⟨y, hy, rfl⟩ := hh
  obtain ⟨i, hi, rfl⟩ := List.getElem_of_mem hy
  rw [posK_eq ho hi rfl, List.mem_iff_getElem]
  constructor
  · rintro ⟨j, hj, rfl⟩
    rw [List.getElem_set]
    split
    · exact .inl rfl
    · rename_i hne
      have hj' : j < l.length := by simpa using hj
      refine .inr ⟨List.getElem_mem _, fun e => ?_⟩
      rcases Nat.lt_or_gt_of_ne hne with e' | e'
      · have := List.pairwise_iff_getElem.mp ho _ _ hi hj' e'; omega
      · have := List.pairwise_iff_getElem.mp ho _ _ hj' hi e'; omega
  · rintro (rfl | ⟨hz, hne⟩)
    · exact ⟨i, by simpa using hi, by simp⟩
    · obtain ⟨j, hj, rfl⟩ := List.getElem_of_mem hz
      refine ⟨j, by simpa using hj, ?_⟩
      rw [List.getElem_set, if_neg]
      rintro rfl; exact hne rfl
theorem sort_setK {l : List α} {r : Int} {z' : α} (ho : l.Pairwise fun x y => key x < key y) (hh : ∃ z ∈ l, key z = r) (hk : key z' = r) : (l.set (posK key l r) z').Pairwise fun x y => key x < key y := by
  obtain ⟨y, hy, rfl⟩ := hh
  obtain ⟨i, hi, rfl⟩ := List.getElem_of_mem hy
  rw [posK_eq ho hi rfl]
  have : (l.set i z').map key = l.map key := by
    rw [List.map_set, hk]
    refine List.ext_getElem (by simp) fun j h1 h2 => ?_
    rw [List.getElem_set]
    split
    · rename_i e; subst e; simp
    · rfl
  have h := ho
  rw [← List.pairwise_map (f := key) (R := fun x y : Int => x < y)] at h ⊢
  rw [this]; exact h
/-- Where the key is not there, it is put in. -/
theorem ins_setK {l : List α} {r : Int} {z0 z' : α} (ho : l.Pairwise fun x y => key x < key y) (hh : ¬ ∃ z ∈ l, key z = r) (hk : key z' = r) :
    ((l.take (posK key l r) ++ z0 :: l.drop (posK key l r)).set (posK key l r) z' = l.take (posK key l r) ++ z' :: l.drop (posK key l r)) ∧
    (∀ z, z ∈ l.take (posK key l r) ++ z' :: l.drop (posK key l r) ↔ z = z' ∨ z ∈ l ∧ key z ≠ r) ∧ (l.take (posK key l r) ++ z' :: l.drop (posK key l r)).Pairwise fun x y => key x < key y := by
  have hp : posK key l r ≤ l.length := List.findIdx_le_length
  refine ⟨?_, fun z => ?_, ?_⟩
  · rw [List.set_append_right _ _ (by rw [List.length_take]; omega)]
    simp [List.length_take, Nat.min_eq_left hp]
  · rw [List.mem_append, List.mem_cons]
    constructor
    · rintro (h | rfl | h)
      · have := List.mem_of_mem_take h; exact .inr ⟨this, fun e => hh ⟨z, this, e⟩⟩
      · exact .inl rfl
      · have := List.mem_of_mem_drop h; exact .inr ⟨this, fun e => hh ⟨z, this, e⟩⟩
    · rintro (rfl | ⟨h, _⟩)
      · exact .inr (.inl rfl)
      · rw [← List.take_append_drop (posK key l r) l] at h
        rcases List.mem_append.mp h with h | h
        · exact .inl h
        · exact .inr (.inr h)
  · have h1 : ∀ x ∈ l.take (posK key l r), key x < r := fun x hx => by
      obtain ⟨i, hi, rfl⟩ := List.getElem_of_mem hx
      rw [List.getElem_take]
      simp only [List.length_take] at hi
      exact posK_lt (by omega) _
    have h2 : ∀ x ∈ l.drop (posK key l r), r < key x := fun x hx => by
      have hm := List.mem_of_mem_drop hx
      obtain ⟨i, hi, rfl⟩ := List.getElem_of_mem hx
      rw [List.getElem_drop]
      simp only [List.length_drop] at hi
      have h3 := posK_ge ho (r := r) (i := posK key l r + i) (by omega) (by omega)
      have h4 : key l[posK key l r + i] ≠ r := fun e => hh ⟨_, List.getElem_mem _, e⟩
      omega
    refine List.pairwise_append.mpr ⟨ho.sublist (List.take_sublist _ _), List.pairwise_cons.mpr ⟨fun y hy => by rw [hk]; exact h2 y hy, ho.sublist (List.drop_sublist _ _)⟩, fun x hx y hy => ?_⟩
    have := h1 x hx
    rcases List.mem_cons.mp hy with rfl | hy
    · omega
    · have := h2 y hy; omega
end

/-- What a listener has heard of a router: what is listed, or nothing. -/
def gOf (l : List Hrd) (r : Int) : Hrd := (base l r).getD (posH l r) hrd0
def pOf (l : List Per) (r : Int) : Per := l.getD (posP l r) ⟨0, 0, 0⟩
theorem hitH_iff {l : List Hrd} {r : Int} (ho : l.Pairwise fun x y => x.router < y.router) : hitH l r ↔ ∃ z ∈ l, z.router = r := hitK_iff (key := Hrd.router) ho
theorem hitP_iff {l : List Per} {r : Int} (ho : l.Pairwise fun x y => x.router < y.router) : hitP l r ↔ ∃ z ∈ l, z.router = r := hitK_iff (key := Per.router) ho
theorem gOf_mem {l : List Hrd} {z : Hrd} (ho : l.Pairwise fun x y => x.router < y.router) (hz : z ∈ l) : gOf l z.router = z := by
  unfold gOf base
  rw [if_pos ((hitH_iff ho).mpr ⟨z, hz, rfl⟩)]
  exact atK_eq (key := Hrd.router) ho hz
theorem insAt_cons {α : Type} (l : List α) (i : Nat) (x : α) : insAt l i x = l.take i ++ x :: l.drop i := by
  simp [insAt]
theorem gOf_no {l : List Hrd} {r : Int} (ho : l.Pairwise fun x y => x.router < y.router) (h : ¬ ∃ z ∈ l, z.router = r) : gOf l r = ⟨r, 0, 0, []⟩ := by
  unfold gOf base
  rw [if_neg (fun q => h ((hitH_iff ho).mp q)), insAt_cons]
  have hp : posH l r ≤ l.length := List.findIdx_le_length
  rw [List.getD_eq_getElem?_getD, List.getElem?_append_right (by rw [List.length_take]; omega)]
  simp [List.length_take, Nat.min_eq_left hp]
theorem pOf_mem {l : List Per} {z : Per} (ho : l.Pairwise fun x y => x.router < y.router) (hz : z ∈ l) : pOf l z.router = z := atK_eq (key := Per.router) ho hz
theorem gOf_router {l : List Hrd} {r : Int} (ho : l.Pairwise fun x y => x.router < y.router) : (gOf l r).router = r := by
  by_cases h : ∃ z ∈ l, z.router = r
  · obtain ⟨z, hz, rfl⟩ := h; rw [gOf_mem ho hz]
  · rw [gOf_no ho h]

/-- A listener that hears: all that is said of it. -/
def hearG (g : Hrd) (x : Sig) : Hrd := hear1 (hear0 g x) x
theorem hearG_router {g : Hrd} {x : Sig} (h : g.router = x.src) : (hearG g x).router = x.src := by
  unfold hearG hear1 hear0
  split <;> split <;> simp [h]
structure Hears (l l' : Lsn) (x y : Sig) : Prop where
  router : l'.router = l.router
  epoch : l'.epoch = l.epoch
  mem : ∀ z, z ∈ l'.heard ↔ z = hearG (gOf l.heard x.src) x ∨ z ∈ l.heard ∧ z.router ≠ x.src
  ans : y = ⟨3, l.router, x.src, (hearG (gOf l.heard x.src) x).epoch, (hearG (gOf l.heard x.src) x).ver, 0, l.epoch, 0, 0, []⟩
  ok : lsnOk l'
theorem hearG_ok {g : Hrd} {x : Sig} (hg : itmsOk g.ver g.items) (hv : 0 ≤ g.ver ∧ g.ver ≤ 1000000) (he : 0 ≤ g.epoch ∧ g.epoch ≤ 1000000) (hx : sigErr x = 0) (hk : x.kind ≠ 3) :
    (1 ≤ (hearG g x).epoch ∧ (hearG g x).epoch ≤ 1000000) ∧ (0 ≤ (hearG g x).ver ∧ (hearG g x).ver ≤ 1000000) ∧ itmsOk (hearG g x).ver (hearG g x).items := by
  obtain ⟨s1, s2, s3⟩ := sig_told hx hk
  have key : ∀ h : Hrd, (1 ≤ h.epoch ∧ h.epoch ≤ 1000000) → (0 ≤ h.ver ∧ h.ver ≤ 1000000) → itmsOk h.ver h.items → (1 ≤ (hear1 h x).epoch ∧ (hear1 h x).epoch ≤ 1000000) ∧ (0 ≤ (hear1 h x).ver ∧ (hear1 h x).ver ≤ 1000000) ∧ itmsOk (hear1 h x).ver (hear1 h x).items := by
    intro h h1 h2 h3
    unfold hear1
    split
    · rename_i c
      obtain ⟨t1, t2, t3⟩ := s3 c.1
      exact ⟨h1, s2, h3.put (x := sigItm x) c.2.2.2 t1 t2 t3⟩
    · exact ⟨h1, h2, h3⟩
  unfold hearG hear0
  split
  · exact key _ s1 ⟨by simp, by simp⟩ ⟨fun y hy => by simp at hy, by simp, List.Pairwise.nil⟩
  · exact key _ ⟨by omega, he.2⟩ hv hg
theorem gOf_ok {l : Lsn} (hl : lsnOk l) (r : Int) : itmsOk (gOf l.heard r).ver (gOf l.heard r).items ∧ (0 ≤ (gOf l.heard r).ver ∧ (gOf l.heard r).ver ≤ 1000000) ∧ (0 ≤ (gOf l.heard r).epoch ∧ (gOf l.heard r).epoch ≤ 1000000) := by
  by_cases h : ∃ z ∈ l.heard, z.router = r
  · obtain ⟨z, hz, rfl⟩ := h
    rw [gOf_mem hl.2.2.2.2 hz]
    obtain ⟨k1, k2, k3, k4, k5⟩ := hl.2.2.2.1 z hz
    exact ⟨k5, k4, by omega, k3.2⟩
  · rw [gOf_no hl.2.2.2.2 h]
    exact ⟨⟨fun y hy => by simp at hy, by simp, List.Pairwise.nil⟩, ⟨by simp, by simp⟩, by simp, by simp⟩
theorem sig_ends {x : Sig} (hx : sigErr x = 0) : sigEnds x := by
  unfold sigErr at hx
  split at hx
  · omega
  split at hx
  · omega
  rename_i h; exact (Classical.not_not.mp h).1
theorem hear_val {l : Lsn} {x : Sig} (hl : lsnOk l) (hx : sigErr x = 0) (hk : x.kind ≠ 3) (hd : x.dst = l.router) (hn : (∃ z ∈ l.heard, z.router = x.src) ∨ l.heard.length < 12) :
    (hear l x).2 = 0 ∧ Hears l (hear l x).1.1 x (hear l x).1.2 := by
  obtain ⟨g1, g2, g3⟩ := gOf_ok hl x.src
  obtain ⟨l1, l2, l3, l4, l5⟩ := hl
  obtain ⟨k1, k2, k3⟩ := hearG_ok g1 g2 g3 hx hk
  have hr := hearG_router (x := x) (gOf_router l5)
  obtain ⟨e1, e2, e3⟩ := sig_ends hx
  have hH : hearH l.heard x = hearG (gOf l.heard x.src) x := rfl
  have hc : ¬ (¬ hitH l.heard x.src ∧ l.heard.length = 12) := by
    rintro ⟨q1, q2⟩
    rcases hn with q | q
    · exact q1 ((hitH_iff l5).mpr q)
    · omega
  have e : hear l x = ((⟨l.router, l.epoch, (base l.heard x.src).set (posH l.heard x.src) (hearG (gOf l.heard x.src) x)⟩,
    ⟨3, l.router, x.src, (hearG (gOf l.heard x.src) x).epoch, (hearG (gOf l.heard x.src) x).ver, 0, l.epoch, 0, 0, []⟩), 0) := by
    unfold hear
    rw [if_neg (not_not_intro ⟨l1, l2, l3, l4, l5⟩), if_neg (not_not_intro hx), if_neg (by rintro (q | q); exact hk q; exact q hd), if_neg hc, hH]
  rw [e]
  have key : (∀ z, z ∈ (base l.heard x.src).set (posH l.heard x.src) (hearG (gOf l.heard x.src) x) ↔ z = hearG (gOf l.heard x.src) x ∨ z ∈ l.heard ∧ z.router ≠ x.src) ∧
      ((base l.heard x.src).set (posH l.heard x.src) (hearG (gOf l.heard x.src) x)).Pairwise (fun x y => x.router < y.router) ∧ ((base l.heard x.src).set (posH l.heard x.src) (hearG (gOf l.heard x.src) x)).length ≤ 12 := by
    by_cases h : ∃ z ∈ l.heard, z.router = x.src
    · have hb : base l.heard x.src = l.heard := if_pos ((hitH_iff l5).mpr h)
      rw [hb]
      exact ⟨mem_setK (key := Hrd.router) l5 h, sort_setK (key := Hrd.router) l5 h hr, by simpa using l3⟩
    · have hb : base l.heard x.src = l.heard.take (posH l.heard x.src) ++ ⟨x.src, 0, 0, []⟩ :: l.heard.drop (posH l.heard x.src) := by
        unfold base
        rw [if_neg fun q => h ((hitH_iff l5).mp q), insAt_cons]
      rw [hb]
      obtain ⟨q1, q2, q3⟩ := ins_setK (key := Hrd.router) (z0 := ⟨x.src, 0, 0, []⟩) l5 h hr
      have q1 : (l.heard.take (posH l.heard x.src) ++ ⟨x.src, 0, 0, []⟩ :: l.heard.drop (posH l.heard x.src)).set (posH l.heard x.src) (hearG (gOf l.heard x.src) x) = l.heard.take (posH l.heard x.src) ++ hearG (gOf l.heard x.src) x :: l.heard.drop (posH l.heard x.src) := q1
      rw [q1]
      refine ⟨q2, q3, ?_⟩
      have := hn.resolve_left h
      simp only [List.length_append, List.length_cons, List.length_take, List.length_drop]; omega
  obtain ⟨m1, m2, m3⟩ := key
  refine ⟨rfl, rfl, rfl, m1, rfl, l1, l2, m3, fun z hz => ?_, m2⟩
  rcases (m1 z).mp hz with rfl | ⟨hz, _⟩
  · exact ⟨by rw [hr]; exact e1, by rw [hr, ← hd]; exact e3, k1, k2, k3⟩
  · exact l4 z hz
theorem Hears.self {l l' : Lsn} {x y : Sig} (hl : lsnOk l) (h : Hears l l' x y) : gOf l'.heard x.src = hearG (gOf l.heard x.src) x := by
  have := gOf_mem h.ok.2.2.2.2 ((h.mem _).mpr (.inl rfl))
  rw [hearG_router (gOf_router hl.2.2.2.2)] at this
  exact this
theorem Hears.other {l l' : Lsn} {x y : Sig} (hl : lsnOk l) (h : Hears l l' x y) {r : Int} (hr : r ≠ x.src) : gOf l'.heard r = gOf l.heard r := by
  by_cases e : ∃ z ∈ l.heard, z.router = r
  · obtain ⟨z, hz, rfl⟩ := e
    rw [gOf_mem hl.2.2.2.2 hz, gOf_mem h.ok.2.2.2.2 ((h.mem z).mpr (.inr ⟨hz, hr⟩))]
  · rw [gOf_no hl.2.2.2.2 e, gOf_no h.ok.2.2.2.2]
    rintro ⟨z, hz, rfl⟩
    rcases (h.mem z).mp hz with rfl | ⟨hz, _⟩
    · exact hr (hearG_router (gOf_router hl.2.2.2.2))
    · exact e ⟨z, hz, rfl⟩

/-- A speaker that takes an acknowledgement. -/
structure Acks (a a' : Spk) (x : Sig) : Prop where
  router : a'.router = a.router
  epoch : a'.epoch = a.epoch
  last : a'.last = a.last
  items : a'.items = a.items
  mem : ∀ z, z ∈ a'.peers ↔ z = ackP a x (pOf a.peers x.src) ∨ z ∈ a.peers ∧ z.router ≠ x.src
  ok : spkOk a'
  routers : a'.peers.map Per.router = a.peers.map Per.router
theorem ack_val {a : Spk} {x : Sig} (ha : spkOk a) (hx : sigErr x = 0) (hk : x.kind = 3) (hd : x.dst = a.router) (hh : ∃ z ∈ a.peers, z.router = x.src) : (ack a x).2 = 0 ∧ Acks a (ack a x).1 x := by
  obtain ⟨p1, p2, p3, p4, p5, p6, p7⟩ := ha
  have hhit := (hitP_iff p7).mpr hh
  have e : ack a x = (⟨a.router, a.epoch, a.last, a.items, a.peers.set (posP a.peers x.src) (ackP a x (pOf a.peers x.src))⟩, 0) := by
    unfold ack
    rw [if_neg (not_not_intro ⟨p1, p2, p3, p4, p5, p6, p7⟩), if_neg (not_not_intro hx), if_neg (by rintro (q | q); exact q hk; exact q hd), if_neg (not_not_intro hhit)]
    rfl
  rw [e]
  obtain ⟨z, hz, hzr⟩ := hh
  have hp : pOf a.peers x.src = z := by rw [← hzr]; exact pOf_mem p7 hz
  obtain ⟨k1, k2⟩ := ackP_ok (p6 z hz) p3.1 hx hk
  rw [hp]
  have hr : (ackP a x z).router = x.src := k2.trans hzr
  have m1 := mem_setK (key := Per.router) (z' := ackP a x z) p7 ⟨z, hz, hzr⟩
  have m2 := sort_setK (key := Per.router) (z' := ackP a x z) p7 ⟨z, hz, hzr⟩ hr
  refine ⟨rfl, rfl, rfl, rfl, rfl, by rw [hp]; exact m1, ⟨p1, p2, p3, p4, by simpa using p5, fun y hy => ?_, m2⟩, ?_⟩
  · rcases (m1 y).mp hy with rfl | ⟨hy, _⟩
    · exact k1
    · exact p6 y hy
  · obtain ⟨i, hi, rfl⟩ := List.getElem_of_mem hz
    have hpos : posP a.peers x.src = i := posK_eq (key := Per.router) p7 hi hzr
    simp only [hpos]
    rw [List.map_set, k2]
    refine List.ext_getElem (by simp) fun j h1 h2 => ?_
    rw [List.getElem_set]
    split
    · rename_i e; subst e; simp
    · rfl
theorem Acks.self {a a' : Spk} {x : Sig} (ha : spkOk a) (hh : ∃ z ∈ a.peers, z.router = x.src) (h : Acks a a' x) : pOf a'.peers x.src = ackP a x (pOf a.peers x.src) := by
  obtain ⟨z, hz, hzr⟩ := hh
  have hp : pOf a.peers x.src = z := by rw [← hzr]; exact pOf_mem ha.2.2.2.2.2.2 hz
  have := pOf_mem h.ok.2.2.2.2.2.2 ((h.mem _).mpr (.inl rfl))
  rw [← this, hp]
  congr 1
  unfold ackP
  split
  · exact hzr.symm
  split <;> exact hzr.symm
theorem Acks.other {a a' : Spk} {x : Sig} (ha : spkOk a) (h : Acks a a' x) {r : Int} (hr : r ≠ x.src) (hh : ∃ z ∈ a.peers, z.router = r) : pOf a'.peers r = pOf a.peers r := by
  obtain ⟨z, hz, rfl⟩ := hh
  rw [pOf_mem ha.2.2.2.2.2.2 hz, pOf_mem h.ok.2.2.2.2.2.2 ((h.mem z).mpr (.inr ⟨hz, hr⟩))]
end Go.Proofs.Ytglfecmdoekabaa
