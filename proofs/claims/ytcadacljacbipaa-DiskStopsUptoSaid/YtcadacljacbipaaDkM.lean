/- The disk as a machine: what lasts of each slot, its loose acts, the current slot, the act that is named. No program in sight. -/
import Derived.Test.YtcadacljacbipaaLib
namespace Go.Proofs.Ytcadacljacbipaa
/-- a loose act -/
inductive DAct where
  | app (d : List UInt8)
  | wipe
namespace DAct
def on : DAct → List UInt8 → List UInt8
  | .app d, l => l ++ d
  | .wipe, _ => []
def size : DAct → Nat
  | .app d => d.length
  | .wipe => 0
/-- the first bytes of it alone -/
def first (a : DAct) (n : Nat) (l : List UInt8) : List UInt8 :=
  match a with
  | .app d => l ++ d.take n
  | .wipe => []
theorem first_all (a : DAct) (l : List UInt8) : a.first a.size l = a.on l := by
  cases a <;> simp [first, on, size]
def ok : DAct → Prop
  | .app d => 0 < d.length
  | .wipe => True
end DAct
def doAll (as : List DAct) (l : List UInt8) : List UInt8 := as.foldl (fun l a => a.on l) l
theorem doAll_nil (l : List UInt8) : doAll [] l = l := rfl
theorem doAll_snoc (as : List DAct) (a : DAct) (l : List UInt8) : doAll (as ++ [a]) l = a.on (doAll as l) := by simp [doAll]
theorem doAll_append (as bs : List DAct) (l : List UInt8) : doAll (as ++ bs) l = doAll bs (doAll as l) := by simp [doAll]
theorem doAll_take (as : List DAct) (k : Nat) (hk : k < as.length) (l : List UInt8) : doAll (as.take (k + 1)) l = (as[k]).on (doAll (as.take k) l) := by
  rw [List.take_succ_eq_append_getElem hk, doAll_snoc]
def sizes (as : List DAct) : Nat := (as.map DAct.size).sum
theorem on_length (a : DAct) (l : List UInt8) : (a.on l).length ≤ l.length + a.size := by cases a <;> simp [DAct.on, DAct.size]
theorem doAll_length (as : List DAct) (l : List UInt8) : (doAll as l).length ≤ l.length + sizes as := by
  induction as generalizing l with
  | nil => simp [doAll, sizes]
  | cons a as ih =>
    have h := ih (a.on l)
    have h2 := on_length a l
    simp only [doAll, List.foldl_cons, sizes, List.map_cons, List.sum_cons] at h ⊢
    omega
/-- a slot -/
structure Dslot where
  lasts : List UInt8
  acts : List DAct
def Dslot.now (s : Dslot) : List UInt8 := doAll s.acts s.lasts
def Dslot.do (s : Dslot) (a : DAct) : Dslot := ⟨s.lasts, s.acts ++ [a]⟩
def Dslot.sync (s : Dslot) : Dslot := ⟨s.now, []⟩
def Dslot.ok (s : Dslot) : Prop := ∀ a ∈ s.acts, a.ok
/-- so many bytes at most will ever be there -/
def Dslot.room (s : Dslot) : Nat := s.lasts.length + sizes s.acts
theorem Dslot.now_le (s : Dslot) : s.now.length ≤ s.room := doAll_length _ _
theorem Dslot.now_do (s : Dslot) (a : DAct) : (s.do a).now = a.on s.now := doAll_snoc _ _ _
theorem Dslot.now_sync (s : Dslot) : s.sync.now = s.now := rfl
theorem Dslot.room_do (s : Dslot) (a : DAct) : (s.do a).room = s.room + a.size := by simp [Dslot.room, Dslot.do, sizes]; omega
theorem Dslot.room_sync (s : Dslot) : s.sync.room ≤ s.room := by have := s.now_le; simp [Dslot.room, Dslot.sync, sizes] at this ⊢; omega
theorem Dslot.ok_do {s : Dslot} {a : DAct} (h : s.ok) (ha : a.ok) : (s.do a).ok := by
  intro b hb
  simp only [Dslot.do, List.mem_append, List.mem_singleton] at hb
  rcases hb with hb | rfl
  · exact h b hb
  · exact ha
theorem Dslot.ok_sync (s : Dslot) : s.sync.ok := by intro b hb; simp [Dslot.sync] at hb
/-- c modulo n, from 0 on -/
def cmod (c : Int) (n : Nat) : Nat := (c % (n : Int)).toNat
theorem cmod_lt (c : Int) {n : Nat} (h : 0 < n) : cmod c n < n := by
  unfold cmod
  have := Int.emod_lt_of_pos c (show (0 : Int) < (n : Int) by omega)
  have := Int.emod_nonneg c (show (n : Int) ≠ 0 by omega)
  omega
/-- the next choice: 0 where there are none -/
def pick1 (cs : List Int) (n : Nat) : Nat := match cs with | [] => 0 | c :: _ => cmod c n
theorem pick1_lt (cs : List Int) {n : Nat} (h : 0 < n) : pick1 cs n < n := by
  cases cs with
  | nil => exact h
  | cons c cs => exact cmod_lt c h
/-- what a crash leaves of a slot, and the choices that are left -/
def Dslot.crash (s : Dslot) (cs : List Int) : List UInt8 × List Int :=
  let k := pick1 cs (s.acts.length + 1)
  let b := doAll (s.acts.take k) s.lasts
  match s.acts[k]? with
  | some (.app d) => (b ++ d.take (pick1 cs.tail d.length), cs.tail.tail)
  | _ => (b, cs.tail)
/-- a disk -/
structure Dk where
  s0 : Dslot
  s1 : Dslot
  cur : Nat
  done : Nat
  named : Nat
  withIt : Bool
  dead : Bool
def Dk.new : Dk := ⟨⟨[], []⟩, ⟨[], []⟩, 0, 0, 0, false, false⟩
def Dk.load (a b : List UInt8) (c : Nat) : Dk := ⟨⟨a, []⟩, ⟨b, []⟩, c, 0, 0, false, false⟩
def Dk.slot (d : Dk) (i : Nat) : Dslot := if i = 0 then d.s0 else d.s1
def Dk.setSlot (d : Dk) (i : Nat) (s : Dslot) : Dk := if i = 0 then { d with s0 := s } else { d with s1 := s }
def Dk.ok (d : Dk) : Prop := d.s0.ok ∧ d.s1.ok ∧ d.cur < 2
def Dk.room (d : Dk) : Nat := d.s0.room + d.s1.room
def Dk.crashed (d : Dk) (cs : List Int) : Dk :=
  let a := d.s0.crash cs
  let b := d.s1.crash a.2
  Dk.load a.1 b.1 d.cur
inductive DOp where
  | append (l : List UInt8)
  | wipe
  | sync
  | switch
def DOp.wipes : DOp → Bool
  | .wipe => true
  | _ => false
/-- what an act does to a disk, at slot i -/
def DOp.eff (o : DOp) (i : Nat) (d : Dk) : Dk :=
  match o with
  | .append l => if 0 < l.length then d.setSlot i ((d.slot i).do (.app l)) else d
  | .wipe => d.setSlot i ((d.slot i).do .wipe)
  | .sync => d.setSlot i (d.slot i).sync
  | .switch => { d with cur := i }
def Dk.bad (d : Dk) (at_ : Int) (wipes : Bool) : Bool := (at_ != 0 && at_ != 1) || (wipes && at_ == (d.cur : Int))
def Dk.err (d : Dk) (at_ : Int) (wipes : Bool) : Int := if d.dead then 60 else if d.bad at_ wipes then 61 else if d.named = 1 then 60 else 0
/-- the count to the named act, before an act -/
def Dk.near (d : Dk) : Dk := { d with named := d.named - 1, dead := d.named == 1 }
def Dk.more (d : Dk) : Dk := { d with done := d.done + 1 }
def Dk.step (d : Dk) (at_ : Int) (o : DOp) : Dk :=
  if d.dead then d else if d.bad at_ o.wipes then d else
  if d.named = 1 ∧ d.withIt = false then d.near else (o.eff at_.toNat d.near).more
end Go.Proofs.Ytcadacljacbipaa
