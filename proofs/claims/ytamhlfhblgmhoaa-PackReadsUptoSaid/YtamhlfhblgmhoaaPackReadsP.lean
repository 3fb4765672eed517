/- The walk of one taking of the law PackReads, from both readers. -/
import Derived.Test.YtamhlfhblgmhoaaPackReadsC
namespace Go.Proofs.Ytamhlfhblgmhoaa
open Go.RowKit
set_option maxRecDepth 100000 in
set_option maxHeartbeats 4000000 in
theorem take_byte (K : Nat → Prop) (w0 W : World) (gr gq gb n : Nat) (e : Int) (d : List UInt8) (k : Nat) (m : Int) (b : UInt8) (ol : List UInt8) (s : ByteArray) (ov : Value)  (h : RS K w0 W gr gq gb n e d k) :
    Calls Try.prog 27 #[.pointer (some ⟨gr, 0, none⟩), .pointer (some ⟨gq, 0, none⟩), .agg #[.int .i64 2, .int .i64 m, B b, ov, .string s], .pointer (some ⟨gb, 0, none⟩)] W (TPost K w0 gr gq gb n d) := by
  have HS0 := hid h
  clear h
  go_enter Try.func27, Try.ntmps27
  go_wp2_with fail
  refine Calls.seen (fun W1 => FrontR K w0 W1 W.heap.size gr gq gb n e d k (⟨2, m, b, ol, s⟩ : POp) ov) (FrontR.mk' HS0.out (⟨2, m, b, ol, s⟩ : POp) ov) fun w1 h1 => ?_
  clear HS0
  obtain ⟨gx, hgx⟩ : ∃ gx, gx = W.heap.size := ⟨_, rfl⟩
  simp only [← hgx] at h1 ⊢
  clear hgx
  have HF := hid h1
  have HS1 := hid h1.s
  clear h1
  refine (PWs.rcall HS1.out (AQ.stab _ _ _ _) (fun v hv => rByte_o hv)).mono ?_
  rintro r w2 ⟨rfl, h2⟩
  have HS2 := hid h2
  clear h2 HS1
  go_wp2_with fail
  refine (PWs.qcall HS2.out (AR.stab _ _ _ _) (fun v hv => qByte_o hv)).mono ?_
  rintro r w3 ⟨rfl, h3⟩
  have HS3 := hid h3
  clear h3 HS2
  go_wp2_with fail
  refine (PWs.rErr HS3.out).mono ?_
  rintro r w9 ⟨rfl, rfl⟩
  go_wp2_with fail
  refine (PWs.qErr HS3.out).mono ?_
  rintro r w9 ⟨rfl, rfl⟩
  go_wp2_with fail
  refine (PWs.rAt HS3.out).mono ?_
  rintro r w9 ⟨rfl, rfl⟩
  go_wp2_with fail
  refine (PWs.qAt HS3.out).mono ?_
  rintro r w9 ⟨rfl, rfl⟩
  go_wp2
  go_ret
  exact ⟨rfl, _, _, _, HF.out.back HS3.out (fun k hk => .inl hk), by omega⟩
set_option maxRecDepth 100000 in
set_option maxHeartbeats 4000000 in
theorem take_bool (K : Nat → Prop) (w0 W : World) (gr gq gb n : Nat) (e : Int) (d : List UInt8) (k : Nat) (m : Int) (b : UInt8) (ol : List UInt8) (s : ByteArray) (ov : Value)  (h : RS K w0 W gr gq gb n e d k) :
    Calls Try.prog 27 #[.pointer (some ⟨gr, 0, none⟩), .pointer (some ⟨gq, 0, none⟩), .agg #[.int .i64 3, .int .i64 m, B b, ov, .string s], .pointer (some ⟨gb, 0, none⟩)] W (TPost K w0 gr gq gb n d) := by
  have HS0 := hid h
  clear h
  go_enter Try.func27, Try.ntmps27
  go_wp2_with fail
  refine Calls.seen (fun W1 => FrontR K w0 W1 W.heap.size gr gq gb n e d k (⟨3, m, b, ol, s⟩ : POp) ov) (FrontR.mk' HS0.out (⟨3, m, b, ol, s⟩ : POp) ov) fun w1 h1 => ?_
  clear HS0
  obtain ⟨gx, hgx⟩ : ∃ gx, gx = W.heap.size := ⟨_, rfl⟩
  simp only [← hgx] at h1 ⊢
  clear hgx
  have HF := hid h1
  have HS1 := hid h1.s
  clear h1
  refine (PWs.rcall HS1.out (AQ.stab _ _ _ _) (fun v hv => rBool_o hv)).mono ?_
  rintro r w2 ⟨rfl, h2⟩
  have HS2 := hid h2
  clear h2 HS1
  go_wp2_with fail
  refine (PWs.qcall HS2.out (AR.stab _ _ _ _) (fun v hv => qBool_o hv)).mono ?_
  rintro r w3 ⟨rfl, h3⟩
  have HS3 := hid h3
  clear h3 HS2
  go_wp2_with fail
  refine (PWs.rErr HS3.out).mono ?_
  rintro r w9 ⟨rfl, rfl⟩
  go_wp2_with fail
  refine (PWs.qErr HS3.out).mono ?_
  rintro r w9 ⟨rfl, rfl⟩
  go_wp2_with fail
  refine (PWs.rAt HS3.out).mono ?_
  rintro r w9 ⟨rfl, rfl⟩
  go_wp2_with fail
  refine (PWs.qAt HS3.out).mono ?_
  rintro r w9 ⟨rfl, rfl⟩
  go_wp2
  go_ret
  exact ⟨rfl, _, _, _, HF.out.back HS3.out (fun k hk => .inl hk), by omega⟩
set_option maxRecDepth 100000 in
set_option maxHeartbeats 4000000 in
theorem take_end (K : Nat → Prop) (w0 W : World) (gr gq gb n : Nat) (e : Int) (d : List UInt8) (k : Nat) (m : Int) (b : UInt8) (ol : List UInt8) (s : ByteArray) (ov : Value)  (h : RS K w0 W gr gq gb n e d k) :
    Calls Try.prog 27 #[.pointer (some ⟨gr, 0, none⟩), .pointer (some ⟨gq, 0, none⟩), .agg #[.int .i64 6, .int .i64 m, B b, ov, .string s], .pointer (some ⟨gb, 0, none⟩)] W (TPost K w0 gr gq gb n d) := by
  have HS0 := hid h
  clear h
  go_enter Try.func27, Try.ntmps27
  go_wp2_with fail
  refine Calls.seen (fun W1 => FrontR K w0 W1 W.heap.size gr gq gb n e d k (⟨6, m, b, ol, s⟩ : POp) ov) (FrontR.mk' HS0.out (⟨6, m, b, ol, s⟩ : POp) ov) fun w1 h1 => ?_
  clear HS0
  obtain ⟨gx, hgx⟩ : ∃ gx, gx = W.heap.size := ⟨_, rfl⟩
  simp only [← hgx] at h1 ⊢
  clear hgx
  have HF := hid h1
  have HS1 := hid h1.s
  clear h1
  refine (PWs.rcall HS1.out (AQ.stab _ _ _ _) (fun v hv => rEnd_o hv)).mono ?_
  rintro r w2 ⟨rfl, h2⟩
  have HS2 := hid h2
  clear h2 HS1
  go_wp2_with fail
  refine (PWs.qcall HS2.out (AR.stab _ _ _ _) (fun v hv => qEnd_o hv)).mono ?_
  rintro r w3 ⟨rfl, h3⟩
  have HS3 := hid h3
  clear h3 HS2
  go_wp2_with fail
  refine (PWs.rErr HS3.out).mono ?_
  rintro r w9 ⟨rfl, rfl⟩
  go_wp2_with fail
  refine (PWs.qErr HS3.out).mono ?_
  rintro r w9 ⟨rfl, rfl⟩
  go_wp2_with fail
  refine (PWs.rAt HS3.out).mono ?_
  rintro r w9 ⟨rfl, rfl⟩
  go_wp2_with fail
  refine (PWs.qAt HS3.out).mono ?_
  rintro r w9 ⟨rfl, rfl⟩
  go_wp2
  go_ret
  exact ⟨rfl, _, _, _, HF.out.back HS3.out (fun k hk => .inl hk), by omega⟩
set_option maxRecDepth 100000 in
set_option maxHeartbeats 4000000 in
theorem take_none (K : Nat → Prop) (w0 W : World) (gr gq gb n : Nat) (e : Int) (d : List UInt8) (k : Nat) (m : Int) (b : UInt8) (ol : List UInt8) (s : ByteArray) (ov : Value) (kd : Int) (q1 : (kd == 1) = false) (q2 : (kd == 2) = false) (q3 : (kd == 3) = false) (q4 : (kd == 4) = false) (q5 : (kd == 5) = false) (q6 : (kd == 6) = false) (h : RS K w0 W gr gq gb n e d k) :
    Calls Try.prog 27 #[.pointer (some ⟨gr, 0, none⟩), .pointer (some ⟨gq, 0, none⟩), .agg #[.int .i64 kd, .int .i64 m, B b, ov, .string s], .pointer (some ⟨gb, 0, none⟩)] W (TPost K w0 gr gq gb n d) := by
  have HS0 := hid h
  clear h
  go_enter Try.func27, Try.ntmps27
  go_wp2_with fail
  refine Calls.seen (fun W1 => FrontR K w0 W1 W.heap.size gr gq gb n e d k (⟨kd, m, b, ol, s⟩ : POp) ov) (FrontR.mk' HS0.out (⟨kd, m, b, ol, s⟩ : POp) ov) fun w1 h1 => ?_
  clear HS0
  obtain ⟨gx, hgx⟩ : ∃ gx, gx = W.heap.size := ⟨_, rfl⟩
  simp only [← hgx] at h1 ⊢
  clear hgx
  have HF := hid h1
  have HS1 := hid h1.s
  clear h1
  refine (PWs.rErr HS1.out).mono ?_
  rintro r w9 ⟨rfl, rfl⟩
  go_wp2_with fail
  refine (PWs.qErr HS1.out).mono ?_
  rintro r w9 ⟨rfl, rfl⟩
  go_wp2_with fail
  refine (PWs.rAt HS1.out).mono ?_
  rintro r w9 ⟨rfl, rfl⟩
  go_wp2_with fail
  refine (PWs.qAt HS1.out).mono ?_
  rintro r w9 ⟨rfl, rfl⟩
  go_wp2
  go_ret
  exact ⟨rfl, _, _, _, HF.out.back HS1.out (fun k hk => .inl hk), by omega⟩
set_option maxRecDepth 100000 in
set_option maxHeartbeats 4000000 in
theorem take_uint (K : Nat → Prop) (w0 W : World) (gr gq gb n : Nat) (e : Int) (d : List UInt8) (k : Nat) (m : Int) (b : UInt8) (ol : List UInt8) (s : ByteArray) (ov : Value)  (h : RS K w0 W gr gq gb n e d k) :
    Calls Try.prog 27 #[.pointer (some ⟨gr, 0, none⟩), .pointer (some ⟨gq, 0, none⟩), .agg #[.int .i64 1, .int .i64 m, B b, ov, .string s], .pointer (some ⟨gb, 0, none⟩)] W (TPost K w0 gr gq gb n d) := by
  have HS0 := hid h
  clear h
  go_enter Try.func27, Try.ntmps27
  go_wp2_with fail
  refine Code.seen (fun W1 => FrontR K w0 W1 W.heap.size gr gq gb n e d k (⟨1, m, b, ol, s⟩ : POp) ov) (FrontR.mk' HS0.out (⟨1, m, b, ol, s⟩ : POp) ov) fun w1 h1 => ?_
  clear HS0
  obtain ⟨gx, hgx⟩ : ∃ gx, gx = W.heap.size := ⟨_, rfl⟩
  simp only [← hgx] at h1 ⊢
  clear hgx
  have HF := hid h1.out
  have HS1 := hid h1.out.s
  have p1 := h1.out.cell (K1 := fun k => K k ∨ k = gx) (Fr.refl _ _) (.inr rfl)
  clear h1
  have HD1 := hid (HS1.out.below (AR.stab _ _ _ _) (AQ.stab _ _ _ _) ((Below.refl _ _).drew))
  go_region_held3 (fun W => W.cell? ⟨gx, 1, none⟩ = some (.int .i64 m))
    (first | assumption | exact p1 | exact p2 | exact p3)
    (first
      | (go_at_call 23; refine (PWs.rcall HD1.out (AQ.stab _ _ _ _) (fun v hv => rUint_o m hv)).mono ?_; rintro r w2 ⟨rfl, h2⟩; have HS2 := hid h2; have p2 := HF.out.cell (K1 := fun k => K k ∨ k = gx) h2.fr (.inr rfl); clear h2)
      | (go_at_call 54; refine (PWs.qcall HS2.out (AR.stab _ _ _ _) (fun v hv => qUint_o m hv)).mono ?_; rintro r w3 ⟨rfl, h3⟩; have HS3 := hid h3; have p3 := HF.out.cell (K1 := fun k => K k ∨ k = gx) h3.fr (.inr rfl); clear h3))
  all_goals
    go_wp2_with fail
    refine (PWs.rErr HS3.out).mono ?_
    rintro r w9 ⟨rfl, rfl⟩
    go_wp2_with fail
    refine (PWs.qErr HS3.out).mono ?_
    rintro r w9 ⟨rfl, rfl⟩
    go_wp2_with fail
    refine (PWs.rAt HS3.out).mono ?_
    rintro r w9 ⟨rfl, rfl⟩
    go_wp2_with fail
    refine (PWs.qAt HS3.out).mono ?_
    rintro r w9 ⟨rfl, rfl⟩
    go_wp2
    go_ret
    exact ⟨rfl, _, _, _, HF.out.back HS3.out (fun k hk => .inl hk), by omega⟩
set_option maxRecDepth 100000 in
set_option maxHeartbeats 4000000 in
theorem take_text (K : Nat → Prop) (w0 W : World) (gr gq gb n : Nat) (e : Int) (d : List UInt8) (k : Nat) (m : Int) (b : UInt8) (ol : List UInt8) (s : ByteArray) (ov : Value)  (h : RS K w0 W gr gq gb n e d k) :
    Calls Try.prog 27 #[.pointer (some ⟨gr, 0, none⟩), .pointer (some ⟨gq, 0, none⟩), .agg #[.int .i64 5, .int .i64 m, B b, ov, .string s], .pointer (some ⟨gb, 0, none⟩)] W (TPost K w0 gr gq gb n d) := by
  have HS0 := hid h
  clear h
  go_enter Try.func27, Try.ntmps27
  go_wp2_with fail
  refine Code.seen (fun W1 => FrontR K w0 W1 W.heap.size gr gq gb n e d k (⟨5, m, b, ol, s⟩ : POp) ov) (FrontR.mk' HS0.out (⟨5, m, b, ol, s⟩ : POp) ov) fun w1 h1 => ?_
  clear HS0
  obtain ⟨gx, hgx⟩ : ∃ gx, gx = W.heap.size := ⟨_, rfl⟩
  simp only [← hgx] at h1 ⊢
  clear hgx
  have HF := hid h1.out
  have HS1 := hid h1.out.s
  have p1 := h1.out.cell (K1 := fun k => K k ∨ k = gx) (Fr.refl _ _) (.inr rfl)
  clear h1
  have HD1 := hid (HS1.out.below (AR.stab _ _ _ _) (AQ.stab _ _ _ _) ((Below.refl _ _).drew))
  go_region_held3 (fun W => W.cell? ⟨gx, 1, none⟩ = some (.int .i64 m))
    (first | assumption | exact p1 | exact p2 | exact p3)
    (first
      | (go_at_call 50; refine (PWs.rcall HD1.out (AQ.stab _ _ _ _) (fun v hv => rText_o m hv)).mono ?_; rintro r w2 ⟨rfl, h2⟩; have HS2 := hid h2; have p2 := HF.out.cell (K1 := fun k => K k ∨ k = gx) h2.fr (.inr rfl); clear h2)
      | (go_at_call 58; refine (PWs.qcall HS2.out (AR.stab _ _ _ _) (fun v hv => qText_o m hv)).mono ?_; rintro r w3 ⟨rfl, h3⟩; have HS3 := hid h3; have p3 := HF.out.cell (K1 := fun k => K k ∨ k = gx) h3.fr (.inr rfl); clear h3))
  all_goals
    go_wp2_with fail
    refine (PWs.rErr HS3.out).mono ?_
    rintro r w9 ⟨rfl, rfl⟩
    go_wp2_with fail
    refine (PWs.qErr HS3.out).mono ?_
    rintro r w9 ⟨rfl, rfl⟩
    go_wp2_with fail
    refine (PWs.rAt HS3.out).mono ?_
    rintro r w9 ⟨rfl, rfl⟩
    go_wp2_with fail
    refine (PWs.qAt HS3.out).mono ?_
    rintro r w9 ⟨rfl, rfl⟩
    go_wp2
    go_ret
    exact ⟨rfl, _, _, _, HF.out.back HS3.out (fun k hk => .inl hk), by omega⟩
theorem bso_len (e : Int) (d : List UInt8) (k : Nat) (m : Int) : (bso e d k m).1.length ≤ d.length := by
  unfold bso
  split
  · split
    · split
      · simp only [List.length_take, List.length_drop]; omega
      · simp
    · simp
  · simp
set_option maxRecDepth 100000 in
set_option maxHeartbeats 4000000 in
theorem take_bytes (K : Nat → Prop) (w0 W : World) (gr gq gb n : Nat) (e : Int) (d : List UInt8) (k : Nat) (m : Int) (b : UInt8) (ol : List UInt8) (s : ByteArray) (ov : Value) (hd : d.length ≤ 1048576) (hn : n ≤ 1048576) (h : RS K w0 W gr gq gb n e d k) :
    Calls Try.prog 27 #[.pointer (some ⟨gr, 0, none⟩), .pointer (some ⟨gq, 0, none⟩), .agg #[.int .i64 4, .int .i64 m, B b, ov, .string s], .pointer (some ⟨gb, 0, none⟩)] W (TPost K w0 gr gq gb n d) := by
  have HS0 := hid h
  clear h
  go_enter Try.func27, Try.ntmps27
  go_wp2_with fail
  refine Calls.seen (fun W1 => FrontR K w0 W1 W.heap.size gr gq gb n e d k (⟨4, m, b, ol, s⟩ : POp) ov) (FrontR.mk' HS0.out (⟨4, m, b, ol, s⟩ : POp) ov) fun w1 h1 => ?_
  clear HS0
  obtain ⟨gx, hgx⟩ : ∃ gx, gx = W.heap.size := ⟨_, rfl⟩
  simp only [← hgx] at h1 ⊢
  clear hgx
  have HF := hid h1
  have HS1 := hid h1.s
  clear h1
  have hL := bso_len e d k m
  have C1 := PWs.rbytes (L := (bso e d k m).1) HS1.out (AQ.stab _ _ _ _) (fun v hv => rBytes_o m hv)
  refine C1.mono ?_
  clear C1
  rintro r w2 ⟨A, c, rfl, ho, hf, h2⟩
  have C2 := PWs.qbytes (L := (bso e d k m).1) h2 (AR.stab _ _ _ _) (fun v hv => qBytes_o m hv)
  have HC2 := hid C2
  have HS2 := hid h2
  have HO2 := hid ho
  have HG2 := hid (fun k hk => World.ownsRow.lt ho k hk)
  have HFF := hid (HF.out.fr.trans (hf.mono (Y := fun i => ¬ K i ∨ w0.heap.size ≤ i) fun k hk hx => .inl fun hK => hx (.inl hK)))
  have p2 := HF.out.cell (K1 := fun k => K k ∨ k = gx) hf (.inr rfl)
  generalize (bso e d k m).1 = L at *
  clear C2 h2 ho hf HS1
  go_wp2_with fail
  refine HC2.out.mono ?_
  rintro r w3 ⟨u, rfl, hu, h3⟩
  have HS3 := hid h3
  have HU := hid hu
  have HO3 := hid (own_fr HO2.out h3.fr (fun k hk hh => hh (.inr hk)))
  clear h3 hu p2
  go_wp2_with fail
  refine (same_any _ _ L L w3 (OwnB.sl HO3.out) HU.out).mono ?_
  rintro r w' ⟨rfl, hw⟩
  replace hw := hw.symm
  subst hw
  simp only [decide_true]
  go_wp2_with fail
  refine (PWs.hold HS3.out (AR.stab _ _ _ _) (AQ.stab _ _ _ _) (.slice A L.length c) L (own_base HO3.out (Nat.zero_le _)) (fun k hk => .inr hk) hn (by omega)).mono ?_
  rintro r w4 ⟨rfl, h4⟩
  have HS4 := hid h4
  clear h4
  go_wp2_with fail
  refine (PWs.rErr HS4.out).mono ?_
  rintro r w9 ⟨rfl, rfl⟩
  go_wp2_with fail
  refine (PWs.qErr HS4.out).mono ?_
  rintro r w9 ⟨rfl, rfl⟩
  go_wp2_with fail
  refine (PWs.rAt HS4.out).mono ?_
  rintro r w9 ⟨rfl, rfl⟩
  go_wp2_with fail
  refine (PWs.qAt HS4.out).mono ?_
  rintro r w9 ⟨rfl, rfl⟩
  go_wp2
  go_ret
  refine ⟨rfl, _, _, _, PWs.drop HS4.out (fun k hk => ⟨.inl (.inl hk), fun e => ?_⟩) HF.out.lt HFF.out, by omega⟩
  have h1 := HF.out.lt k hk
  have h2 := (HG2.out k e).1
  have h3 := HF.out.fr.size
  omega
end Go.Proofs.Ytamhlfhblgmhoaa
