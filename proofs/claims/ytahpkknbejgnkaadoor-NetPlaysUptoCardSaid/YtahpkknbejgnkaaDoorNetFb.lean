/- The calls of both networks, of any number. -/
import Derived.Test.YtahpkknbejgnkaaDoorNetPi
import Derived.Test.YtahpkknbejgnkaaDoorFam
namespace Go.Proofs.YtahpkknbejgnkaaDoor
open Go.RowKit
def netT (d : Nat) (P : List Pkt) : Thing := ⟨fun w S => NAt w S d P, NAt.fr⟩
def refT (d : Nat) (P : List Pkt) : Thing := ⟨fun w S => RAt w S d P, HAt.fr⟩
/-- bytes that are read in these blocks -/
def slT (v : Value) (l : List UInt8) : Thing := ⟨fun w S => SlI w S v l, fun h hf hx hs _ => h.fr hf hx hs⟩
theorem Fam.sl {B : Nat} {w0 w : World} {ts : List Thing} {i : Nat} {t : Thing} {v : Value} {l : List UInt8} (h : Fam B w0 w ts) (hi : ts[i]? = some (andT t (slT v l))) : SlB w v l := by
  obtain ⟨S, hS, _⟩ := h.call hi
  exact hS.2.sl
def pk0 : Pkt := ⟨0, 0, 0, 0, [], false⟩
def inR (P : List Pkt) (x : Int) : Bool := decide (0 ≤ x) && decide (x < (P.length : Int))
def eOf (P : List Pkt) (x : Int) (e : Int) : Int := if inR P x then e else 50
def gt (P : List Pkt) (x : Int) : Pkt := P.getD x.toNat pk0
def pDrop (P : List Pkt) (x : Int) : List Pkt := if inR P x then P.eraseIdx x.toNat else P
def pDouble (P : List Pkt) (x : Int) : List Pkt := if inR P x then P ++ [gt P x] else P
def pLose (P : List Pkt) (x : Int) : List Pkt := if inR P x then P.set x.toNat (gt P x).lose else P
def pCut (P : List Pkt) (x n : Int) : List Pkt := if inR P x then if n < 0 then P else P.set x.toNat ((gt P x).cut n) else P
def eNeg (n : Int) : Int := if n < 0 then 1 else 0
def pBurst (P : List Pkt) (x n : Int) (pat : BitVec 32) : List Pkt := if inR P x then if n < 0 then P else P.set x.toNat ((gt P x).with_ (Crc.turn n.toNat pat (gt P x).data)) else P
def pTk (P : List Pkt) (x : Int) : Pkt := if inR P x then gt P x else pk0
def pSend (P : List Pkt) (p : Pkt) : List Pkt := if sendE p = 0 then P ++ [p] else P
def Small6 (P : List Pkt) : Prop := ∀ p ∈ P, p.data.length ≤ 66000
theorem Small6.s {P : List Pkt} (h : Small6 P) : ∀ p ∈ P, p.data.length ≤ 140737488355328 := fun p hp => by have := h p hp; omega
theorem inR_yes {P : List Pkt} {x : Int} (h : inR P x = true) : ∃ i : Nat, x = (i : Int) ∧ i < P.length ∧ P[i]? = some (gt P x) ∧ x.toNat = i := by
  unfold inR at h
  simp at h
  refine ⟨x.toNat, by omega, by omega, ?_, rfl⟩
  unfold gt
  rw [List.getD_eq_getElem?_getD, List.getElem?_eq_getElem (by omega)]; rfl
theorem inR_no {P : List Pkt} {x : Int} (h : inR P x = false) : x < 0 ∨ (P.length : Int) ≤ x := by
  unfold inR at h
  simp at h
  omega
theorem gt_at {P : List Pkt} {i : Nat} (h : i < P.length) : gt P (i : Int) = P[i] := by
  unfold gt; rw [Int.toNat_natCast, List.getD_eq_getElem?_getD, List.getElem?_eq_getElem h]; rfl
theorem gt_small {P : List Pkt} (h : Small6 P) (x : Int) : (gt P x).data.length ≤ 66000 := by
  unfold gt
  rw [List.getD_eq_getElem?_getD]
  cases e : P[x.toNat]? with
  | none => simp [pk0]
  | some p => exact h p (List.mem_of_getElem? e)
theorem pTk_small {P : List Pkt} (h : Small6 P) (x : Int) : (pTk P x).data.length ≤ 66000 := by
  unfold pTk; split
  · exact gt_small h x
  · simp [pk0]
theorem set_small {P : List Pkt} (h : Small6 P) (i : Nat) (p : Pkt) (hp : p.data.length ≤ 66000) : Small6 (P.set i p) := fun q hq => by
  rcases List.mem_or_eq_of_mem_set hq with h1 | h1
  · exact h q h1
  · rw [h1]; exact hp
theorem app_small {P : List Pkt} (h : Small6 P) (p : Pkt) (hp : p.data.length ≤ 66000) : Small6 (P ++ [p]) := fun q hq => by
  rcases List.mem_append.1 hq with h1 | h1
  · exact h q h1
  · rw [List.mem_singleton] at h1; rw [h1]; exact hp
theorem pDrop_small {P : List Pkt} (h : Small6 P) (x : Int) : Small6 (pDrop P x) := by
  unfold pDrop; split
  · exact fun p hp => h p (List.mem_of_mem_eraseIdx hp)
  · exact h
theorem pDouble_small {P : List Pkt} (h : Small6 P) (x : Int) : Small6 (pDouble P x) := by
  unfold pDouble; split
  · exact app_small h _ (gt_small h x)
  · exact h
theorem pLose_small {P : List Pkt} (h : Small6 P) (x : Int) : Small6 (pLose P x) := by
  unfold pLose; split
  · exact set_small h _ _ (gt_small h x)
  · exact h
theorem pCut_small {P : List Pkt} (h : Small6 P) (x n : Int) : Small6 (pCut P x n) := by
  unfold pCut; split
  · split
    · exact h
    · exact set_small h _ _ (by have := gt_small h x; unfold Pkt.cut Pkt.with_; simp; omega)
  · exact h
theorem pBurst_small {P : List Pkt} (h : Small6 P) (x n : Int) (pat : BitVec 32) : Small6 (pBurst P x n pat) := by
  unfold pBurst; split
  · split
    · exact h
    · exact set_small h _ _ (by have := gt_small h x; unfold Pkt.with_; rw [Crc.turn_length]; exact this)
  · exact h
theorem pSend_small {P : List Pkt} (h : Small6 P) (p : Pkt) : Small6 (pSend P p) := by
  unfold pSend; split
  · rename_i he
    refine app_small h p ?_
    unfold sendE at he
    split at he
    · cases he
    · split at he
      · cases he
      · omega
  · exact h
theorem len_le (P : List Pkt) (x n : Int) (pat : BitVec 32) (p : Pkt) : (pDrop P x).length ≤ P.length + 1 ∧ (pDouble P x).length ≤ P.length + 1 ∧ (pLose P x).length ≤ P.length + 1 ∧ (pCut P x n).length ≤ P.length + 1 ∧ (pBurst P x n pat).length ≤ P.length + 1 ∧ (pSend P p).length ≤ P.length + 1 := by
  unfold pDrop pDouble pLose pCut pBurst pSend
  refine ⟨?_, ?_, ?_, ?_, ?_, ?_⟩ <;> (split <;> (try split)) <;> simp [List.length_eraseIdx] <;> (try split) <;> omega
theorem send_yes {p : Pkt} (he : sendE p = 0) : okNode p.fk p.fi = true ∧ okNode p.tk p.ti = true ∧ p.data.length ≤ 66000 := by
  unfold sendE at he
  split at he
  · cases he
  · rename_i h1
    split at he
    · cases he
    · exact ⟨by cases h : okNode p.fk p.fi <;> simp_all, by cases h : okNode p.tk p.ti <;> simp_all, by omega⟩
theorem Drop_fam {B : Nat} {w0 w : World} {ts : List Thing} {d i : Nat} {P : List Pkt} (h : Fam B w0 w ts) (_hs : Small6 P) (hP : P.length ≤ 1099511627776) (hF : FtAt w0) (hB : 0 < B) (hi : ts[i]? = some (netT d P)) (x : Int) :
    Calls Tryd.prog 9 #[.pointer (some ⟨d, 0, none⟩), .int .i64 x] w fun e w' => e = .returned (.int .i64 (eOf P x 0)) ∧ Fam B w0 w' (ts.set i (netT d (pDrop P x))) := by
  obtain ⟨S, hS, _, k⟩ := h.call hi
  cases hx : inR P x
  · simp only [eOf, pDrop, hx, Bool.false_eq_true, if_false]
    refine (Drop_no w S d P x hS (inR_no hx)).mono ?_
    rintro e w' ⟨he, rfl⟩
    exact ⟨he, k _ _ (Nt.of_same hS).1 (Nt.of_same hS).2⟩
  · obtain ⟨n, rfl, hn, hp, hnt⟩ := inR_yes hx
    simp only [eOf, pDrop, hx, Int.toNat_natCast, if_true]
    exact (Drop_ok w S d P n (hF.below hB h.base) hS hn hP).mono fun e w' ⟨he, hw⟩ => ⟨he, k _ _ hw.1 hw.2⟩
theorem Double_fam {B : Nat} {w0 w : World} {ts : List Thing} {d i : Nat} {P : List Pkt} (h : Fam B w0 w ts) (hs : Small6 P) (hP : P.length ≤ 1099511627776) (hF : FtAt w0) (hB : 0 < B) (hi : ts[i]? = some (netT d P)) (x : Int) :
    Calls Tryd.prog 8 #[.pointer (some ⟨d, 0, none⟩), .int .i64 x] w fun e w' => e = .returned (.int .i64 (eOf P x 0)) ∧ Fam B w0 w' (ts.set i (netT d (pDouble P x))) := by
  obtain ⟨S, hS, _, k⟩ := h.call hi
  cases hx : inR P x
  · simp only [eOf, pDouble, hx, Bool.false_eq_true, if_false]
    refine (Double_no w S d P x hS (inR_no hx)).mono ?_
    rintro e w' ⟨he, rfl⟩
    exact ⟨he, k _ _ (Nt.of_same hS).1 (Nt.of_same hS).2⟩
  · obtain ⟨n, rfl, hn, hp, hnt⟩ := inR_yes hx
    simp only [eOf, pDouble, hx, if_true]
    rw [gt_at hn]
    exact (Double_ok w S d P n (hF.below hB h.base) hS hn hs.s hP).mono fun e w' ⟨he, hw⟩ => ⟨he, k _ _ hw.1 hw.2⟩
theorem Lose_fam {B : Nat} {w0 w : World} {ts : List Thing} {d i : Nat} {P : List Pkt} (h : Fam B w0 w ts) (_hs : Small6 P) (_hP : P.length ≤ 1099511627776) (hF : FtAt w0) (hB : 0 < B) (hi : ts[i]? = some (netT d P)) (x : Int) :
    Calls Tryd.prog 36 #[.pointer (some ⟨d, 0, none⟩), .int .i64 x] w fun e w' => e = .returned (.int .i64 (eOf P x 0)) ∧ Fam B w0 w' (ts.set i (netT d (pLose P x))) := by
  obtain ⟨S, hS, _, k⟩ := h.call hi
  cases hx : inR P x
  · simp only [eOf, pLose, hx, Bool.false_eq_true, if_false]
    exact (Lose_no w S d P x hS (inR_no hx)).mono fun e w' ⟨he, hw⟩ => ⟨he, k _ _ hw.1 hw.2⟩
  · obtain ⟨n, rfl, hn, hp, hnt⟩ := inR_yes hx
    simp only [eOf, pLose, hx, Int.toNat_natCast, if_true]
    exact (Lose_ok w S d P n _ (hF.below hB h.base) hS hp).mono fun e w' ⟨he, hw⟩ => ⟨he, k _ _ hw.1 hw.2⟩
theorem Cut_fam {B : Nat} {w0 w : World} {ts : List Thing} {d i : Nat} {P : List Pkt} (h : Fam B w0 w ts) (hs : Small6 P) (_hP : P.length ≤ 1099511627776) (hF : FtAt w0) (hB : 0 < B) (hi : ts[i]? = some (netT d P)) (x : Int) (n : Int) (n2 : n ≤ 9223372036854775807) :
    Calls Tryd.prog 34 #[.pointer (some ⟨d, 0, none⟩), .int .i64 x, .int .i64 n] w fun e w' => e = .returned (.int .i64 (eOf P x (eNeg n))) ∧ Fam B w0 w' (ts.set i (netT d (pCut P x n))) := by
  obtain ⟨S, hS, _, k⟩ := h.call hi
  cases hx : inR P x
  · simp only [eOf, pCut, eNeg, hx, Bool.false_eq_true, if_false]
    exact (Cut_no w S d P x n hS (inR_no hx)).mono fun e w' ⟨he, hw⟩ => ⟨he, k _ _ hw.1 hw.2⟩
  · obtain ⟨m, rfl, hm, hp, hmt⟩ := inR_yes hx
    have hgs := gt_small hs (m : Int)
    simp only [eOf, pCut, eNeg, hx, Int.toNat_natCast, if_true]
    by_cases hn : n < 0
    · rw [if_pos hn, if_pos hn]
      exact (Cut_neg w S d P m _ n (hF.below hB h.base) hS hp hn).mono fun e w' ⟨he, hw⟩ => ⟨he, k _ _ hw.1 hw.2⟩
    · rw [if_neg hn, if_neg hn]
      exact (Cut_ok w S d P m _ n (hF.below hB h.base) hS hp (by omega) n2 (by omega)).mono fun e w' ⟨he, hw⟩ => ⟨he, k _ _ hw.1 hw.2⟩
theorem Burst_fam {B : Nat} {w0 w : World} {ts : List Thing} {d i : Nat} {P : List Pkt} (h : Fam B w0 w ts) (hs : Small6 P) (_hP : P.length ≤ 1099511627776) (hF : FtAt w0) (hB : 0 < B) (hi : ts[i]? = some (netT d P)) (x : Int) (n : Int) (pat : BitVec 32) (n2 : n ≤ 9223372036854775807) :
    Calls Tryd.prog 32 #[.pointer (some ⟨d, 0, none⟩), .int .i64 x, .int .i64 n, W32 pat] w fun e w' => e = .returned (.int .i64 (eOf P x (eNeg n))) ∧ Fam B w0 w' (ts.set i (netT d (pBurst P x n pat))) := by
  obtain ⟨S, hS, _, k⟩ := h.call hi
  cases hx : inR P x
  · simp only [eOf, pBurst, eNeg, hx, Bool.false_eq_true, if_false]
    exact (Burst_no w S d P x n pat hS (inR_no hx)).mono fun e w' ⟨he, hw⟩ => ⟨he, k _ _ hw.1 hw.2⟩
  · obtain ⟨m, rfl, hm, hp, hmt⟩ := inR_yes hx
    have hgs := gt_small hs (m : Int)
    simp only [eOf, pBurst, eNeg, hx, Int.toNat_natCast, if_true]
    by_cases hn : n < 0
    · rw [if_pos hn, if_pos hn]
      exact (Burst_neg w S d P m _ n pat (hF.below hB h.base) hS hp hn).mono fun e w' ⟨he, hw⟩ => ⟨he, k _ _ hw.1 hw.2⟩
    · rw [if_neg hn, if_neg hn]
      obtain ⟨b, rfl⟩ : ∃ b : Nat, n = (b : Int) := ⟨n.toNat, by omega⟩
      rw [Int.toNat_natCast]
      exact (Burst_ok w S d P m _ b pat (hF.below hB h.base) hS hp (by omega) (by omega)).mono fun e w' ⟨he, hw⟩ => ⟨he, k _ _ hw.1 hw.2⟩
theorem Take_fam {B : Nat} {w0 w : World} {ts : List Thing} {d i : Nat} {P : List Pkt} (h : Fam B w0 w ts) (hs : Small6 P) (hP : P.length ≤ 1099511627776) (hF : FtAt w0) (hB : 0 < B) (hi : ts[i]? = some (netT d P)) (x : Int) :
    Calls Tryd.prog 6 #[.pointer (some ⟨d, 0, none⟩), .int .i64 x] w fun e w' => ∃ u, e = .returned (.tuple #[(pTk P x).val u, .int .i64 (eOf P x 0)]) ∧ Fam B w0 w' (ts.set i (andT (netT d (pDrop P x)) (slT u (pTk P x).data))) := by
  obtain ⟨S, hS, _, k⟩ := h.call hi
  cases hx : inR P x
  · simp only [eOf, pDrop, pTk, hx, Bool.false_eq_true, if_false]
    exact (Take_no w S d P x hS (inR_no hx)).mono fun e w' ⟨he, hb⟩ => ⟨.slice none 0 0, he, k _ _ ⟨(Nt.stay hb hS).1, Sl.nil _ _, fun h0 => absurd h0 (by simp [pk0])⟩ (Nt.stay hb hS).2⟩
  · obtain ⟨n, rfl, hn, hp, hnt⟩ := inR_yes hx
    simp only [eOf, pDrop, pTk, hx, Int.toNat_natCast, if_true]
    rw [gt_at hn]
    exact (Take_own w S d P n (hF.below hB h.base) hS hn hs.s hP).mono fun e w' ⟨u, he, hu, hw⟩ => ⟨u, he, k _ _ ⟨hw.1, hu.sl, fun _ k hk => .inr (World.ownsRow.lt hu k hk)⟩ hw.2⟩
theorem Send_fam {B : Nat} {w0 w : World} {ts : List Thing} {d i : Nat} {P : List Pkt} (h : Fam B w0 w ts) (_hs : Small6 P) (hP : P.length ≤ 1099511627776) (hi : ts[i]? = some (netT d P)) (p : Pkt) (v : Value) (hv : SlB w v p.data) :
    Calls Tryd.prog 22 #[.pointer (some ⟨d, 0, none⟩), p.val v] w fun e w' => e = .returned (.int .i64 (sendE p)) ∧ Fam B w0 w' (ts.set i (netT d (pSend P p))) := by
  obtain ⟨S, hS, _, k⟩ := h.call hi
  unfold pSend
  by_cases he : sendE p = 0
  · rw [if_pos he, he]
    obtain ⟨h1, h2, h3⟩ := send_yes he
    exact (Send_ok w S d P p v hS hv h1 h2 h3 hP).mono fun e w' ⟨he, hw⟩ => ⟨he, k _ _ hw.1 hw.2⟩
  · rw [if_neg he]
    exact (Send_no w d p v hv he).mono fun e w' ⟨he, hb⟩ => ⟨he, k _ _ (Nt.stay hb hS).1 (Nt.stay hb hS).2⟩
theorem Len_fam {B : Nat} {w0 w : World} {ts : List Thing} {d i : Nat} {P : List Pkt} (h : Fam B w0 w ts) (_hs : Small6 P) (_hP : P.length ≤ 1099511627776) (hi : ts[i]? = some (netT d P)) : Calls Tryd.prog 10 #[.pointer (some ⟨d, 0, none⟩)] w fun e w' => e = .returned (.int .i64 (P.length : Int)) ∧ w' = w := by
  obtain ⟨S, hS, _, k⟩ := h.call hi
  exact Len_any w S d P hS
theorem Flight_fam {B : Nat} {w0 w : World} {ts : List Thing} {d i : Nat} {P : List Pkt} (h : Fam B w0 w ts) (hs : Small6 P) (hP : P.length ≤ 1099511627776) (hi : ts[i]? = some (netT d P)) : Calls Tryd.prog 19 #[.pointer (some ⟨d, 0, none⟩)] w fun e w' => ∃ v, e = .returned v ∧ RdP w' v P ∧ Below w.heap.size w w' := by
  obtain ⟨S, hS, _, k⟩ := h.call hi
  exact (Flight_any w S d P hS hs.s hP).mono fun e w' ⟨v, he, hv, hb⟩ => ⟨v, he, hv.rd, hb⟩
theorem Copy_fam {B : Nat} {w0 w : World} {ts : List Thing} {d i : Nat} {P : List Pkt} (h : Fam B w0 w ts) (hs : Small6 P) (hP : P.length ≤ 1099511627776) (hi : ts[i]? = some (netT d P)) : Calls Tryd.prog 14 #[.pointer (some ⟨d, 0, none⟩)] w fun e w' => ∃ d', e = .returned (.pointer (some ⟨d', 0, none⟩)) ∧ Fam B w0 w' (ts ++ [netT d' P]) := by
  obtain ⟨S, hS, _, k⟩ := h.call hi
  exact (Copy_any w S d P hS hs.s hP).mono fun e w' ⟨d', he, hv, hb⟩ => ⟨d', he, h.add hb hv⟩
theorem rDrop_fam {B : Nat} {w0 w : World} {ts : List Thing} {d i : Nat} {P : List Pkt} (h : Fam B w0 w ts) (hs : Small6 P) (hP : P.length ≤ 1099511627776) (hi : ts[i]? = some (refT d P)) (x : Int) :
    Calls Tryd.prog 29 #[.pointer (some ⟨d, 0, none⟩), .int .i64 x] w fun e w' => e = .returned (.int .i64 (eOf P x 0)) ∧ Fam B w0 w' (ts.set i (refT d (pDrop P x))) := by
  obtain ⟨S, hS, _, k⟩ := h.call hi
  cases hx : inR P x
  · simp only [eOf, pDrop, hx, Bool.false_eq_true, if_false]
    exact (rDrop_no w S d P x hS (inR_no hx)).mono fun e w' ⟨he, hw⟩ => ⟨he, k _ _ (Ht.stay hw hS).1 (Ht.stay hw hS).2⟩
  · obtain ⟨n, rfl, hn, hp, hnt⟩ := inR_yes hx
    simp only [eOf, pDrop, hx, Int.toNat_natCast, if_true]
    exact (rDrop_ok w S d P n hS hn hs.s hP).mono fun e w' ⟨he, hw⟩ => ⟨he, k _ _ hw.1 hw.2⟩
theorem rDouble_fam {B : Nat} {w0 w : World} {ts : List Thing} {d i : Nat} {P : List Pkt} (h : Fam B w0 w ts) (hs : Small6 P) (hP : P.length ≤ 1099511627776) (hi : ts[i]? = some (refT d P)) (x : Int) :
    Calls Tryd.prog 30 #[.pointer (some ⟨d, 0, none⟩), .int .i64 x] w fun e w' => e = .returned (.int .i64 (eOf P x 0)) ∧ Fam B w0 w' (ts.set i (refT d (pDouble P x))) := by
  obtain ⟨S, hS, _, k⟩ := h.call hi
  cases hx : inR P x
  · simp only [eOf, pDouble, hx, Bool.false_eq_true, if_false]
    refine (rDouble_no w S d P x hS (inR_no hx)).mono ?_
    rintro e w' ⟨he, rfl⟩
    exact ⟨he, k _ _ (Ht.stay (Below.refl _ _) hS).1 (Ht.stay (Below.refl _ _) hS).2⟩
  · obtain ⟨n, rfl, hn, hp, hnt⟩ := inR_yes hx
    simp only [eOf, pDouble, hx, if_true]
    rw [gt_at hn]
    exact (rDouble_ok w S d P n hS hn hs.s hP).mono fun e w' ⟨he, hw⟩ => ⟨he, k _ _ hw.1 hw.2⟩
theorem rLose_fam {B : Nat} {w0 w : World} {ts : List Thing} {d i : Nat} {P : List Pkt} (h : Fam B w0 w ts) (_hs : Small6 P) (_hP : P.length ≤ 1099511627776) (hi : ts[i]? = some (refT d P)) (x : Int) :
    Calls Tryd.prog 35 #[.pointer (some ⟨d, 0, none⟩), .int .i64 x] w fun e w' => e = .returned (.int .i64 (eOf P x 0)) ∧ Fam B w0 w' (ts.set i (refT d (pLose P x))) := by
  obtain ⟨S, hS, _, k⟩ := h.call hi
  cases hx : inR P x
  · simp only [eOf, pLose, hx, Bool.false_eq_true, if_false]
    refine (rLose_no w S d P x hS (inR_no hx)).mono ?_
    rintro e w' ⟨he, rfl⟩
    exact ⟨he, k _ _ (Ht.stay (Below.refl _ _) hS).1 (Ht.stay (Below.refl _ _) hS).2⟩
  · obtain ⟨n, rfl, hn, hp, hnt⟩ := inR_yes hx
    simp only [eOf, pLose, hx, Int.toNat_natCast, if_true]
    exact (rLose_ok w S d P n _ hS hp).mono fun e w' ⟨he, hw⟩ => ⟨he, k _ _ hw.1 hw.2⟩
theorem rCut_fam {B : Nat} {w0 w : World} {ts : List Thing} {d i : Nat} {P : List Pkt} (h : Fam B w0 w ts) (hs : Small6 P) (_hP : P.length ≤ 1099511627776) (hi : ts[i]? = some (refT d P)) (x : Int) (n : Int) (n2 : n ≤ 9223372036854775807) :
    Calls Tryd.prog 33 #[.pointer (some ⟨d, 0, none⟩), .int .i64 x, .int .i64 n] w fun e w' => e = .returned (.int .i64 (eOf P x (eNeg n))) ∧ Fam B w0 w' (ts.set i (refT d (pCut P x n))) := by
  obtain ⟨S, hS, _, k⟩ := h.call hi
  cases hx : inR P x
  · simp only [eOf, pCut, eNeg, hx, Bool.false_eq_true, if_false]
    refine (rCut_no w S d P x n hS (inR_no hx)).mono ?_
    rintro e w' ⟨he, rfl⟩
    exact ⟨he, k _ _ (Ht.stay (Below.refl _ _) hS).1 (Ht.stay (Below.refl _ _) hS).2⟩
  · obtain ⟨m, rfl, hm, hp, hmt⟩ := inR_yes hx
    have hgs := gt_small hs (m : Int)
    simp only [eOf, pCut, eNeg, hx, Int.toNat_natCast, if_true]
    by_cases hn : n < 0
    · rw [if_pos hn, if_pos hn]
      refine (rCut_neg w S d P m n hS hm hn).mono ?_
      rintro e w' ⟨he, rfl⟩
      exact ⟨he, k _ _ (Ht.stay (Below.refl _ _) hS).1 (Ht.stay (Below.refl _ _) hS).2⟩
    · rw [if_neg hn, if_neg hn]
      exact (rCut_ok w S d P m _ n hS hp (by omega) n2 (by omega)).mono fun e w' ⟨he, hw⟩ => ⟨he, k _ _ hw.1 hw.2⟩
theorem rBurst_fam {B : Nat} {w0 w : World} {ts : List Thing} {d i : Nat} {P : List Pkt} (h : Fam B w0 w ts) (hs : Small6 P) (_hP : P.length ≤ 1099511627776) (hi : ts[i]? = some (refT d P)) (x : Int) (n : Int) (pat : BitVec 32) (n2 : n ≤ 9223372036854775807) :
    Calls Tryd.prog 31 #[.pointer (some ⟨d, 0, none⟩), .int .i64 x, .int .i64 n, W32 pat] w fun e w' => e = .returned (.int .i64 (eOf P x (eNeg n))) ∧ Fam B w0 w' (ts.set i (refT d (pBurst P x n pat))) := by
  obtain ⟨S, hS, _, k⟩ := h.call hi
  cases hx : inR P x
  · simp only [eOf, pBurst, eNeg, hx, Bool.false_eq_true, if_false]
    refine (rBurst_no w S d P x n pat hS (inR_no hx)).mono ?_
    rintro e w' ⟨he, rfl⟩
    exact ⟨he, k _ _ (Ht.stay (Below.refl _ _) hS).1 (Ht.stay (Below.refl _ _) hS).2⟩
  · obtain ⟨m, rfl, hm, hp, hmt⟩ := inR_yes hx
    have hgs := gt_small hs (m : Int)
    simp only [eOf, pBurst, eNeg, hx, Int.toNat_natCast, if_true]
    by_cases hn : n < 0
    · rw [if_pos hn, if_pos hn]
      refine (rBurst_neg w S d P m n pat hS hm hn).mono ?_
      rintro e w' ⟨he, rfl⟩
      exact ⟨he, k _ _ (Ht.stay (Below.refl _ _) hS).1 (Ht.stay (Below.refl _ _) hS).2⟩
    · rw [if_neg hn, if_neg hn]
      obtain ⟨b, rfl⟩ : ∃ b : Nat, n = (b : Int) := ⟨n.toNat, by omega⟩
      rw [Int.toNat_natCast]
      exact (rBurst_ok w S d P m _ b pat hS hp (by omega) (by omega)).mono fun e w' ⟨he, hw⟩ => ⟨he, k _ _ hw.1 hw.2⟩
theorem rTake_fam {B : Nat} {w0 w : World} {ts : List Thing} {d i : Nat} {P : List Pkt} (h : Fam B w0 w ts) (hs : Small6 P) (hP : P.length ≤ 1099511627776) (hi : ts[i]? = some (refT d P)) (x : Int) :
    Calls Tryd.prog 28 #[.pointer (some ⟨d, 0, none⟩), .int .i64 x] w fun e w' => ∃ u, e = .returned (.tuple #[(pTk P x).val u, .int .i64 (eOf P x 0)]) ∧ Fam B w0 w' (ts.set i (andT (refT d (pDrop P x)) (slT u (pTk P x).data))) := by
  obtain ⟨S, hS, _, k⟩ := h.call hi
  cases hx : inR P x
  · simp only [eOf, pDrop, pTk, hx, Bool.false_eq_true, if_false]
    exact (rTake_no w S d P x hS (inR_no hx)).mono fun e w' ⟨he, hb⟩ => ⟨.slice none 0 0, he, k _ _ ⟨(Ht.stay hb hS).1, Sl.nil _ _, fun h0 => absurd h0 (by simp [pk0])⟩ (Ht.stay hb hS).2⟩
  · obtain ⟨n, rfl, hn, hp, hnt⟩ := inR_yes hx
    simp only [eOf, pDrop, pTk, hx, Int.toNat_natCast, if_true]
    rw [gt_at hn]
    exact (rTake_own w S d P n hS hn hs.s hP).mono fun e w' ⟨u, he, hu, hw⟩ => ⟨u, he, k _ _ ⟨hw.1, hu.sl, fun _ k hk => .inr (World.ownsRow.lt hu k hk)⟩ hw.2⟩
theorem rSend_fam {B : Nat} {w0 w : World} {ts : List Thing} {d i : Nat} {P : List Pkt} (h : Fam B w0 w ts) (_hs : Small6 P) (hP : P.length ≤ 1099511627776) (hi : ts[i]? = some (refT d P)) (p : Pkt) (v : Value) (hv : SlB w v p.data) :
    Calls Tryd.prog 25 #[.pointer (some ⟨d, 0, none⟩), p.val v] w fun e w' => e = .returned (.int .i64 (sendE p)) ∧ Fam B w0 w' (ts.set i (refT d (pSend P p))) := by
  obtain ⟨S, hS, _, k⟩ := h.call hi
  unfold pSend
  by_cases he : sendE p = 0
  · rw [if_pos he, he]
    obtain ⟨h1, h2, h3⟩ := send_yes he
    exact (rSend_ok w S d P p v hS hv h1 h2 h3 hP).mono fun e w' ⟨he, hw⟩ => ⟨he, k _ _ hw.1 hw.2⟩
  · rw [if_neg he]
    exact (rSend_no w d p v hv he).mono fun e w' ⟨he, hb⟩ => ⟨he, k _ _ (Ht.stay hb hS).1 (Ht.stay hb hS).2⟩
theorem rLen_fam {B : Nat} {w0 w : World} {ts : List Thing} {d i : Nat} {P : List Pkt} (h : Fam B w0 w ts) (_hs : Small6 P) (_hP : P.length ≤ 1099511627776) (hi : ts[i]? = some (refT d P)) : Calls Tryd.prog 17 #[.pointer (some ⟨d, 0, none⟩)] w fun e w' => e = .returned (.int .i64 (P.length : Int)) ∧ w' = w := by
  obtain ⟨S, hS, _, k⟩ := h.call hi
  exact rLen_any w S d P hS
theorem rFlight_fam {B : Nat} {w0 w : World} {ts : List Thing} {d i : Nat} {P : List Pkt} (h : Fam B w0 w ts) (hs : Small6 P) (hP : P.length ≤ 1099511627776) (hi : ts[i]? = some (refT d P)) : Calls Tryd.prog 20 #[.pointer (some ⟨d, 0, none⟩)] w fun e w' => ∃ v, e = .returned v ∧ RdP w' v P ∧ Below w.heap.size w w' := by
  obtain ⟨S, hS, _, k⟩ := h.call hi
  exact (rFlight_any w S d P hS hs.s hP).mono fun e w' ⟨v, he, hv, hb⟩ => ⟨v, he, hv.rd, hb⟩
theorem rCopy_fam {B : Nat} {w0 w : World} {ts : List Thing} {d i : Nat} {P : List Pkt} (h : Fam B w0 w ts) (hs : Small6 P) (hP : P.length ≤ 1099511627776) (hi : ts[i]? = some (refT d P)) : Calls Tryd.prog 15 #[.pointer (some ⟨d, 0, none⟩)] w fun e w' => ∃ d', e = .returned (.pointer (some ⟨d', 0, none⟩)) ∧ Fam B w0 w' (ts ++ [refT d' P]) := by
  obtain ⟨S, hS, _, k⟩ := h.call hi
  exact (rCopy_any w S d P hS hs.s hP).mono fun e w' ⟨d', he, hv, hb⟩ => ⟨d', he, h.add hb hv⟩
end Go.Proofs.YtahpkknbejgnkaaDoor
