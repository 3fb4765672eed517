/- flown: a network with these in flight. -/
import Derived.Test.YtahpkknbejgnkaaDoorNetO
namespace Go.Proofs.YtahpkknbejgnkaaDoor
open Go.RowKit
def sentN (ds : List (List UInt8)) (k : Nat) : List Pkt := (List.range k).map fun i => rightP i (ds.getD i [])
theorem sentN_succ (ds : List (List UInt8)) (k : Nat) : sentN ds (k + 1) = sentN ds k ++ [rightP k (ds.getD k [])] := by simp [sentN, List.range_succ]
theorem sentN_len (ds : List (List UInt8)) (k : Nat) : (sentN ds k).length = k := by simp [sentN]
theorem sentN_small (ds : List (List UInt8)) (k : Nat) : ∀ p ∈ sentN ds k, p.data.length ≤ 300 := by
  intro p hp
  obtain ⟨i, _, rfl⟩ := List.mem_map.1 hp
  exact (rightP_ok i _).2.2
set_option maxRecDepth 100000 in
set_option maxHeartbeats 4000000 in
theorem flown_any (ds : List (List UInt8)) (dv : Value) (w : World) (h : SlBB w dv ds) (hn : ds.length ≤ 1048576) (hd : ∀ l ∈ ds, l.length ≤ 1048576) :
    Calls Tryd.prog 5 #[dv] w fun e w' => ∃ d sv, e = .returned (.tuple #[.pointer (some ⟨d, 0, none⟩), sv, .bool true]) ∧ Two w.heap.size w w' d (sentN ds ds.length) sv (sentN ds ds.length) := by
  obtain ⟨f, ⟨A, c, rfl, hc, hnil, hA⟩, hf⟩ := h
  have HA := hid hA
  have HF := hid hf
  have HD := hid hd
  obtain ⟨i0, hi0, hz0, hz1, hz2⟩ := info_parts infoK
  clear hA hf hd hnil
  go_enter Tryd.func5, Tryd.ntmps5
  go_wp2_with fail
  refine (New_two w).mono ?_
  rintro e w1 ⟨d, rfl, h1⟩
  have H1 := hid h1
  clear h1
  go_wp2
  go_loopw [6, 13] (fun v i wr => ∃ k : Nat, k ≤ ds.length ∧ i = .int .i64 k ∧ Two w.heap.size w wr d (sentN ds k) v (sentN ds k)) (fun _ i _ => ds.length - (intOf i).toNat)
  case atStart => exact ⟨0, by omega, rfl, H1.out⟩
  case round =>
    obtain ⟨k, hk, rfl, hT⟩ := hrel
    have HT := hid hT
    obtain ⟨S, T, hN, ⟨I, vs, hPV⟩, h3, h4, h5, h6⟩ := hT
    have HLEN := hid (sentN_len ds k)
    obtain ⟨Ao, co, rfl⟩ := own_form hPV.row
    have HN := hid hN
    have HV := hid hPV
    have HB := hid h5
    have H3 := hid h3
    have H4 := hid h4
    have hB := h6
    clear hN hPV h3 h4 h5 h6
    rw [HLEN.out]
    by_cases hlt : k < ds.length
    · obtain ⟨b, off, rfl, hcell⟩ := HA.out (by omega)
      have x0 : wr.cell? ⟨b, off + k, none⟩ = some (f k) := (HB.out.cell (World.block_lt_of_cell? w _ (hcell k hlt))).trans (hcell k hlt)
      have hs0 := HF.out k hlt
      have hl0 : (ds.getD k []).length ≤ 1048576 := HD.out _ (by rw [List.getD_eq_getElem?_getD, List.getElem?_eq_getElem hlt]; exact List.getElem_mem hlt)
      have HSC := hid (sentN_succ ds k)
      generalize ds.getD k [] = l at *
      generalize f k = fv at *
      obtain ⟨Al, cl, rfl⟩ := hs0.form
      have HS0 := hid hs0
      have HOK := hid (rightP_ok k l)
      clear hcell hs0
      have i1 : (k : Int) < (ds.length : Int) := by omega
      go_wp2_with fail
      refine (right_any k (.slice Al l.length cl) l wr (HS0.out.below HB.out) (by omega) (by omega)).mono ?_
      rintro e w2 ⟨u, rfl, hu, hb2⟩
      obtain ⟨Au, cu, rfl⟩ := hu.form
      have HU := hid hu
      have HB2 := hid hb2
      have HOX := hid (own_fr HV.out.row (Fr.of_below hb2) (fun _ _ h => h))
      rw [HLEN.out] at HOX
      obtain ⟨p, hp⟩ : ∃ p, p = rightP k l := ⟨_, rfl⟩
      have HP := hid hp
      rw [← hp] at HOK HSC ⊢
      have hpd : p.data = l.take 300 := by rw [hp]; rfl
      have HPD := hid hpd
      rw [← hpd] at HU ⊢
      obtain ⟨fk, fi, tk, ti, m, lost⟩ := p
      unfold Pkt.val
      simp only
      clear hu hb2 x0 hp hpd
      go_upto_region 7 with (fail)
      refine Code.seen (fun W => W.heap[w2.heap.size]? = some (.cells #[.int .i64 fk, .int .i64 fi, .int .i64 tk, .int .i64 ti, .slice Au m.length cu, .bool lost] 32 (0, 0)) ∧ Below w2.heap.size w2 W) ⟨heap_alloc_new _ _, (Below.refl _ _).alloc (Nat.le_refl _) _⟩ fun w3 Z3 => ?_
      obtain ⟨y0, y1, y2, y3, y4, y5⟩ := pk_at Z3.out.1
      have HOX3 := hid (own_fr HOX.out (Fr.of_below Z3.out.2) (fun _ _ h => h))
      have HB3 := hid (below_then HB2.out Z3.out.2)
      go_upto_region 8 with (at_builtin; refine wpList_append_lies _ rfl (.tmp 21) (.tmp 23) 25 rfl 0 32 i0 _ 6 64 Tryd.underlying25 hi0 hz0 hz1 hz2 rfl (by omega) (.slice Ao k co) k _ rfl (HOX3.out.alloc _) ⟨w3.heap.size, 0, none⟩ 1 1 [.int .i64 fk, .int .i64 fi, .int .i64 tk, .int .i64 ti, .slice Au m.length cu, .bool lost] rfl rfl (World.news_of_block (cs := #[.int .i64 fk, .int .i64 fi, .int .i64 tk, .int .i64 ti, .slice Au m.length cu, .bool lost]) (t := 32) (fr := (0, 0)) (heap_alloc_new w3 _)) (by simp [Value.oneCell']) (by omega) (by unfold maxLen; omega) (by omega) (Nat.zero_le _) (w3.heap.size + 1) (by simp) ?_; intro g2 cap2 w5 hown5 hgrow hat hlt5; have H5 := hid (Two.more (B := w.heap.size) (w0 := w) (d := d) (p := ⟨fk, fi, tk, ti, m, lost⟩) (J := fun k => (Value.slice Au m.length cu).ownBlock = some k ∧ wr.heap.size ≤ k ∧ k < w2.heap.size) HN.out H3.out H4.out HB.out hB HV.out HB2.out ⟨HU.out.sl, fun _ k hk => ⟨hk, World.ownsRow.lt HU.out k hk⟩⟩ (fun k hk => .inr hk.2) (Z3.out.2.trans ((Below.refl w3.heap.size w3).alloc (Nat.le_refl _) _ |>.mono Z3.out.2.size)) (by rw [HLEN.out]; exact hown5) (by rw [HLEN.out]; exact hgrow) (hat.imp (fun e => by rw [HLEN.out]; exact e) (fun e => by have := Z3.out.2.size; omega))); clear hown5 hgrow hat hlt5)
      rw [HLEN.out] at H5
      clear y0 y1 y2 y3 y4 y5 HOX3 HB3 Z3 HU HB2 HOX
      go_wp2_with fail
      refine (right_any k (.slice Al l.length cl) l w5 (HS0.out.below H5.out.base) (by omega) (by omega)).mono ?_
      rintro e w6 ⟨u6, rfl, hu6, hb6⟩
      rw [← HP.out]
      rw [← HPD.out] at hu6
      have HU6 := hid hu6
      have H6 := hid (H5.out.below hb6)
      obtain ⟨A6, c6, rfl⟩ := hu6.form
      unfold Pkt.val
      simp only
      clear hu6 hb6
      go_wp2_with fail
      refine (Send_two H6.out ⟨fk, fi, tk, ti, m, lost⟩ (.slice A6 m.length c6) HU6.out.sl HOK.out.1 HOK.out.2.1 (by have := HOK.out.2.2; simp only at this ⊢; omega) (by rw [HLEN.out]; omega)).mono ?_
      rintro e w7 ⟨rfl, h7⟩
      rw [← HSC.out] at h7
      have H7 := hid h7
      clear h7
      go_wp2_with fail
      go_roundw
      case rel => exact ⟨k + 1, by omega, by go_num, H7.out⟩
      case measure => simp [intOf]; omega
    · obtain rfl : k = ds.length := by omega
      go_wp2_with fail
      refine (Len_two HT.out).mono ?_
      rintro e w2 ⟨rfl, rfl⟩
      rw [HLEN.out] at HT ⊢
      have hk2 : (ds.length == ds.length) = true := by simp
      go_wp2
      go_ret3
      exact ⟨d, _, rfl, HT.out⟩
end Go.Proofs.YtahpkknbejgnkaaDoor
