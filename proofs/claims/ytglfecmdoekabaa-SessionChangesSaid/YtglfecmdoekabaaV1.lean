/- Speakers, listeners, wants and signals in plain Lean: what the functions of a session mean. -/
import Derived.Test.YtglfecmdoekabaaG2
namespace Go.Proofs.Ytglfecmdoekabaa
open Go Go.Am
set_option linter.unusedVariables false
set_option linter.unusedSimpArgs false

structure Itm where
  ver : Int
  grp : Int
  mode : Int
  srcs : List Int
  deriving DecidableEq
structure Wnt where
  grp : Int
  mode : Int
  srcs : List Int
  deriving DecidableEq
structure Per where
  router : Int
  epoch : Int
  acked : Int
  deriving DecidableEq
structure Spk where
  router : Int
  epoch : Int
  last : Int
  items : List Itm
  peers : List Per
  deriving DecidableEq
structure Hrd where
  router : Int
  epoch : Int
  ver : Int
  items : List Itm
  deriving DecidableEq
structure Lsn where
  router : Int
  epoch : Int
  heard : List Hrd
  deriving DecidableEq
structure Sig where
  kind : Int
  src : Int
  dst : Int
  epoch : Int
  ver : Int
  prev : Int
  pep : Int
  grp : Int
  mode : Int
  srcs : List Int
  deriving DecidableEq

def Itm.v (x : Itm) : AV := .agg [.int x.ver, .int x.grp, .int x.mode, ints x.srcs]
def itms (l : List Itm) : AV := .sl 4 (l.map Itm.v) false
def Wnt.v (x : Wnt) : AV := .agg [.int x.grp, .int x.mode, ints x.srcs]
def wnts (l : List Wnt) : AV := .sl 3 (l.map Wnt.v) false
def Per.v (x : Per) : AV := .agg [.int x.router, .int x.epoch, .int x.acked]
def pers (l : List Per) : AV := .sl 3 (l.map Per.v) false
def Spk.v (x : Spk) : AV := .agg [.int x.router, .int x.epoch, .int x.last, itms x.items, pers x.peers]
def Hrd.v (x : Hrd) : AV := .agg [.int x.router, .int x.epoch, .int x.ver, itms x.items]
def hrds (l : List Hrd) : AV := .sl 4 (l.map Hrd.v) false
def Lsn.v (x : Lsn) : AV := .agg [.int x.router, .int x.epoch, hrds x.heard]
def Sig.v (x : Sig) : AV := .agg [.int x.kind, .int x.src, .int x.dst, .int x.epoch, .int x.ver, .int x.prev, .int x.pep, .int x.grp, .int x.mode, ints x.srcs]
def sigs (l : List Sig) : AV := .sl 10 (l.map Sig.v) false

def itmOk (last : Int) (x : Itm) : Prop := (1 ≤ x.ver ∧ x.ver ≤ last) ∧ (1 ≤ x.grp ∧ x.grp ≤ 99) ∧ fltErr x.mode x.srcs = 0
instance (last : Int) (x : Itm) : Decidable (itmOk last x) := by unfold itmOk; infer_instance
def itmsOk (last : Int) (l : List Itm) : Prop := (∀ x ∈ l, itmOk last x) ∧ (l.map Itm.grp).Nodup ∧ l.Pairwise fun x y => x.ver < y.ver
instance (last : Int) (l : List Itm) : Decidable (itmsOk last l) := by unfold itmsOk; infer_instance
def perOk (r last : Int) (p : Per) : Prop := (1 ≤ p.router ∧ p.router ≤ 99) ∧ p.router ≠ r ∧ (0 ≤ p.epoch ∧ p.epoch ≤ 1000000) ∧ (0 ≤ p.acked ∧ p.acked ≤ last)
instance (r last : Int) (p : Per) : Decidable (perOk r last p) := by unfold perOk; infer_instance
def spkOk (s : Spk) : Prop := (1 ≤ s.router ∧ s.router ≤ 99) ∧ (1 ≤ s.epoch ∧ s.epoch ≤ 1000000) ∧ (0 ≤ s.last ∧ s.last ≤ 1000000) ∧ itmsOk s.last s.items ∧ s.peers.length ≤ 12 ∧
  (∀ p ∈ s.peers, perOk s.router s.last p) ∧ s.peers.Pairwise fun x y => x.router < y.router
instance (s : Spk) : Decidable (spkOk s) := by unfold spkOk; infer_instance
def hrdOk (r : Int) (h : Hrd) : Prop := (1 ≤ h.router ∧ h.router ≤ 99) ∧ h.router ≠ r ∧ (1 ≤ h.epoch ∧ h.epoch ≤ 1000000) ∧ (0 ≤ h.ver ∧ h.ver ≤ 1000000) ∧ itmsOk h.ver h.items
instance (r : Int) (h : Hrd) : Decidable (hrdOk r h) := by unfold hrdOk; infer_instance
def lsnOk (l : Lsn) : Prop := (1 ≤ l.router ∧ l.router ≤ 99) ∧ (1 ≤ l.epoch ∧ l.epoch ≤ 1000000) ∧ l.heard.length ≤ 12 ∧ (∀ h ∈ l.heard, hrdOk l.router h) ∧ l.heard.Pairwise fun x y => x.router < y.router
instance (l : Lsn) : Decidable (lsnOk l) := by unfold lsnOk; infer_instance
def errIf (p : Prop) [Decidable p] : Int := if p then 0 else 1

/-- The ranges of a signal's numbers. -/
def sigNums (x : Sig) : Prop :=
  if x.kind = 1 then (1 ≤ x.epoch ∧ x.epoch ≤ 1000000) ∧ (0 ≤ x.ver ∧ x.ver ≤ 1000000) ∧ x.prev = 0 ∧ x.pep = 0 ∧ x.grp = 0
  else if x.kind = 2 then (1 ≤ x.epoch ∧ x.epoch ≤ 1000000) ∧ (1 ≤ x.ver ∧ x.ver ≤ 1000000) ∧ (0 ≤ x.prev ∧ x.prev ≤ x.ver - 1) ∧ x.pep = 0 ∧ (1 ≤ x.grp ∧ x.grp ≤ 99)
  else (0 ≤ x.epoch ∧ x.epoch ≤ 1000000) ∧ (0 ≤ x.ver ∧ x.ver ≤ 1000000) ∧ x.prev = 0 ∧ (1 ≤ x.pep ∧ x.pep ≤ 1000000) ∧ x.grp = 0
instance (x : Sig) : Decidable (sigNums x) := by unfold sigNums; infer_instance
def sigEnds (x : Sig) : Prop := (1 ≤ x.src ∧ x.src ≤ 99) ∧ (1 ≤ x.dst ∧ x.dst ≤ 99) ∧ x.src ≠ x.dst
instance (x : Sig) : Decidable (sigEnds x) := by unfold sigEnds; infer_instance
def sigErr (x : Sig) : Int :=
  if ¬ (x.kind = 1 ∨ x.kind = 2 ∨ x.kind = 3) then 1 else if ¬ (sigEnds x ∧ sigNums x) then 2
  else if x.kind = 2 then fltErr x.mode x.srcs else if x.mode ≠ 0 ∨ x.srcs ≠ [] then 1 else 0

/-- Wants, or changes of wants. -/
def isNoW (w : Wnt) : Prop := w.mode = 1 ∧ w.srcs = []
instance (w : Wnt) : Decidable (isNoW w) := by unfold isNoW; infer_instance
def wFErrs (l : List Wnt) : Int := orI (l.map fun x => fltErr x.mode x.srcs)
def wErr (chg : Bool) (l : List Wnt) : Int :=
  if 32 < l.length then 3 else if ¬ (∀ w ∈ l, 1 ≤ w.grp ∧ w.grp ≤ 99) then 2 else if wFErrs l ≠ 0 then wFErrs l
  else if chg = false ∧ ∃ w ∈ l, isNoW w then 1 else if ¬ (l.Pairwise fun x y => x.grp < y.grp) then 25 else 0

def without (g : Int) (l : List Itm) : List Itm := l.filter fun x => decide (x.grp ≠ g)
def put1 (l : List Itm) (x : Itm) : List Itm := without x.grp l ++ [x]
def told (l : List Itm) (g : Int) : Int × List Int := match l.find? fun x => decide (x.grp = g) with
  | some x => (x.mode, x.srcs)
  | none => (1, [])
def chg1 (s : Int × List Itm) (w : Wnt) : Int × List Itm :=
  if told s.2 w.grp = (w.mode, w.srcs) then s else (s.1 + 1, put1 s.2 ⟨s.1 + 1, w.grp, w.mode, w.srcs⟩)
def spk0 : Spk := ⟨0, 0, 0, [], []⟩
def lsn0 : Lsn := ⟨0, 0, []⟩
def sig0 : Sig := ⟨0, 0, 0, 0, 0, 0, 0, 0, 0, []⟩
abbrev SR := Spk × Int
def SR.v (r : SR) : AV := .tup [r.1.v, .int r.2]
def new (r k : Int) (p : List Int) : SR :=
  let s : Spk := ⟨r, k, 0, [], p.map fun x => ⟨x, 0, 0⟩⟩
  if spkOk s then (s, 0) else (spk0, 1)
def change (s : Spk) (c : List Wnt) : SR :=
  if ¬ spkOk s then (spk0, 1) else if wErr true c ≠ 0 then (spk0, wErr true c)
  else if 1000000 < (c.foldl chg1 (s.last, s.items)).1 then (spk0, 3)
  else (⟨s.router, s.epoch, (c.foldl chg1 (s.last, s.items)).1, (c.foldl chg1 (s.last, s.items)).2, s.peers⟩, 0)
def wItm (i : Nat) (w : Wnt) : Itm := ⟨i + 1, w.grp, w.mode, w.srcs⟩
def restart (s : Spk) (w : List Wnt) : SR :=
  if ¬ spkOk s then (spk0, 1) else if wErr false w ≠ 0 then (spk0, wErr false w) else if s.epoch = 1000000 then (spk0, 3)
  else (⟨s.router, s.epoch + 1, w.length, w.mapIdx wItm, s.peers.map fun p => ⟨p.router, 0, 0⟩⟩, 0)
def posP (l : List Per) (r : Int) : Nat := l.findIdx fun p => !decide (p.router < r)
def hitP (l : List Per) (r : Int) : Prop := posP l r < l.length ∧ (l.getD (posP l r) ⟨0, 0, 0⟩).router = r
instance (l : List Per) (r : Int) : Decidable (hitP l r) := by unfold hitP; infer_instance
def posH (l : List Hrd) (r : Int) : Nat := l.findIdx fun p => !decide (p.router < r)
def hrd0 : Hrd := ⟨0, 0, 0, []⟩
def hitH (l : List Hrd) (r : Int) : Prop := posH l r < l.length ∧ (l.getD (posH l r) hrd0).router = r
instance (l : List Hrd) (r : Int) : Decidable (hitH l r) := by unfold hitH; infer_instance
def upd1 (s : Spk) (to prev : Int) (x : Itm) : Sig := ⟨2, s.router, to, s.epoch, x.ver, prev, 0, x.grp, x.mode, x.srcs⟩
def sendFrom (s : Spk) (to acked : Int) : Int → List Itm → List Sig
  | _, [] => []
  | prev, x :: r => (if acked < x.ver then [upd1 s to prev x] else []) ++ sendFrom s to acked x.ver r
def hello (s : Spk) (to : Int) : Sig := ⟨1, s.router, to, s.epoch, s.last, 0, 0, 0, 0, []⟩
def send (s : Spk) (to : Int) : List Sig × Int :=
  if ¬ spkOk s then ([], 1) else if ¬ hitP s.peers to then ([], 4)
  else (hello s to :: sendFrom s to (s.peers.getD (posP s.peers to) ⟨0, 0, 0⟩).acked 0 s.items, 0)
def ackV (s : Spk) (x : Sig) : Int := if x.epoch = s.epoch ∧ x.ver ≤ s.last then x.ver else 0
def ackP (s : Spk) (x : Sig) (p : Per) : Per :=
  if p.epoch < x.pep then ⟨p.router, x.pep, ackV s x⟩ else if x.pep = p.epoch then ⟨p.router, p.epoch, maxI p.acked (ackV s x)⟩ else p
def ack (s : Spk) (x : Sig) : SR :=
  if ¬ spkOk s then (spk0, 1) else if sigErr x ≠ 0 then (spk0, sigErr x) else if x.kind ≠ 3 ∨ x.dst ≠ s.router then (spk0, 1)
  else if ¬ hitP s.peers x.src then (spk0, 4)
  else (⟨s.router, s.epoch, s.last, s.items, s.peers.set (posP s.peers x.src) (ackP s x (s.peers.getD (posP s.peers x.src) ⟨0, 0, 0⟩))⟩, 0)
def sigItm (x : Sig) : Itm := ⟨x.ver, x.grp, x.mode, x.srcs⟩
def hear1 (h : Hrd) (x : Sig) : Hrd :=
  if x.kind = 2 ∧ x.epoch = h.epoch ∧ x.prev ≤ h.ver ∧ h.ver < x.ver then ⟨h.router, h.epoch, x.ver, put1 h.items (sigItm x)⟩ else h
def hear0 (h : Hrd) (x : Sig) : Hrd := if h.epoch < x.epoch then ⟨x.src, x.epoch, 0, []⟩ else h
def base (l : List Hrd) (r : Int) : List Hrd := if hitH l r then l else insAt l (posH l r) ⟨r, 0, 0, []⟩
abbrev HR := (Lsn × Sig) × Int
def HR.v (r : HR) : AV := .tup [r.1.1.v, r.1.2.v, .int r.2]
def hearH (l : List Hrd) (x : Sig) : Hrd := hear1 (hear0 ((base l x.src).getD (posH l x.src) hrd0) x) x
def hear (l : Lsn) (x : Sig) : HR :=
  if ¬ lsnOk l then ((lsn0, sig0), 1) else if sigErr x ≠ 0 then ((lsn0, sig0), sigErr x) else if x.kind = 3 ∨ x.dst ≠ l.router then ((lsn0, sig0), 1)
  else if ¬ hitH l.heard x.src ∧ l.heard.length = 12 then ((lsn0, sig0), 3)
  else ((⟨l.router, l.epoch, (base l.heard x.src).set (posH l.heard x.src) (hearH l.heard x)⟩,
    ⟨3, l.router, x.src, (hearH l.heard x).epoch, (hearH l.heard x).ver, 0, l.epoch, 0, 0, []⟩), 0)
def atH (l : List Hrd) (r : Int) : Hrd := l.getD (posH l r) hrd0
def agree (s : Spk) (l : Lsn) : Prop :=
  spkOk s ∧ lsnOk l ∧ hitH l.heard s.router ∧ (atH l.heard s.router).epoch = s.epoch ∧ (atH l.heard s.router).ver = s.last ∧ (atH l.heard s.router).items = s.items
instance (s : Spk) (l : Lsn) : Decidable (agree s l) := by unfold agree; infer_instance
end Go.Proofs.Ytglfecmdoekabaa
