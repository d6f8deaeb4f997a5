/-
  shake: what it hears.
-/
import Derived.Test.YtobldgdfejpckaaCASd
set_option linter.all false
set_option linter.unusedVariables false
set_option maxRecDepth 100000
namespace Go.Vc.SA
open Go.Proofs Go.Vc.Sha

def metOf (x : Pt) (C : CK) : MetV := ⟨C.tag, C.tsn, C.window, x.e.Inter && interC C.ps⟩
def granted (x : Pt) (C : CK) : Pt × Option (Int × CK) :=
  if x.s ≠ 1 then (x, none) else if ¬ rightC C then (x, none) else match find C.ps 7 with
    | none => (x, none)
    | some k => ({ x with met := metOf x C, echo := k, s := 2, tries := 0 }, some (C.tag, { kind := 10, body := k }))
def echoedK (x : Pt) (o : CookieV × Int) : Pt × Option (Int × CK) :=
  if o.2 ≠ 0 then (x, none) else if o.1.Tag ≠ x.e.Tag then (x, none) else if x.s ≥ 8 then (x, none) else if x.s ≥ 2 ∧ o.1.Peer ≠ x.met.Tag then (x, none)
  else if x.s ≤ 2 then ({ x with met := ⟨o.1.Peer, o.1.PeerTsn, o.1.Window, o.1.Features == 1⟩, s := 3, tries := 0 }, some (o.1.Peer, { kind := 11 })) else (x, some (x.met.Tag, { kind := 11 }))
def echoed (x : Pt) (C : CK) (now : Int) : Pt × Option (Int × CK) := echoedK x (opn (kb x.e.Key) C.body (IntKind.u32.wrap now))

theorem right_pos {C : CK} (h : decide (C.tag ≠ 0 ∧ C.out ≠ 0 ∧ C.inn ≠ 0) = true) : rightC C := of_decide_eq_true h
theorem right_neg {C : CK} (h : decide (C.tag ≠ 0 ∧ C.out ≠ 0 ∧ C.inn ≠ 0) = false) : ¬ rightC C := of_decide_eq_false h

section
variable {p : Nat} {x : Pt} {w : World} {H : List HA}
set_option maxHeartbeats 2000000 in
/-- granted -/
theorem c64 {C : CK} {ps body : SlV} {pv : List ParamV} {K : SlV → World → Prop} (h : St w (PtA p x :: H)) (hc : ∀ w', St w' H → Ch w' C ps body pv) (hl : ∀ y ∈ C.ps, y.2.length ≤ 1048576)
    (k : ∀ r w', St w' (OutA r (granted x C).2 :: PtA p (granted x C).1 :: H) → K r w') : callP P 64 #[.pointer (some ⟨p, 0, none⟩), ChunkV.val (mkC C ps body)] w SlV.val K := sf64_call _ _ _ _ (by
  obtain ⟨q, h⟩ := PtA.un h
  unfold granted at k
  refine h.nw fun b1 w1 h => ?_
  refine h.lda (b := b1) (x := ps) rfl ?_
  refine c79 (kind := 7) h (fun w' h => ⟨(hc w' h.drop.drop.drop).sl, (hc w' h.drop.drop.drop).ps⟩) hl fun r3 w2 h => ?_
  have h := keep.of (φ := fun w => Sl w 1 (Value.int .u8) r3 ((find C.ps 7).getD [])) (fun _ h => h.sl) h
  refine cut_i (fun _ w' => x.s = 1 ∧ rightC C ∧ (∃ kk, find C.ps 7 = some kk) ∧ St w' (.keep (fun w => Sl w 1 (Value.int .u8) r3 ((find C.ps 7).getD [])) :: cellsA b1 (ChunkV.val (mkC C ps body)).cells.toList 57 :: cellsA p (ptc x q) 122 :: keepE x q :: H)) ?_ ?_
  · refine h.lda (b := p) (x := x.s) rfl (cond_i (fun e => ?_) (fun e => ?_))
    · rw [if_pos (by simpa using e)] at k
      exact k _ _ (OutA.none (PtA.mk h.drop.drop))
    have e : x.s = 1 := by simpa using e
    rw [if_neg (fun h => h e)] at k
    refine ldCh (b := b1) (v := mkC C ps body) h ?_
    refine c77 h fun w4 h => cond_i (fun e2 => ?_) (fun e2 => ?_)
    · have e2 : ¬ rightC C := right_neg (by simpa only [Bool.not_eq_true'] using e2)
      rw [if_pos e2] at k
      exact k _ _ (OutA.none (PtA.mk h.drop.drop))
    have e2 : rightC C := right_pos (by simpa only [Bool.not_eq_false'] using e2)
    rw [if_neg (fun h => h e2)] at k
    rcases hf : find C.ps 7 with _ | kk
    · rw [hf] at k
      exact cond_t rfl (k _ _ (OutA.none (PtA.mk h.drop.drop)))
    · rw [hf] at h
      exact cond_f rfl ⟨e, e2, ⟨kk, rfl⟩, h⟩
  rintro g _ w3 ⟨e1, e2, ⟨kk, hf⟩, h⟩
  rw [if_neg (fun h => h e1), if_neg (fun h => h e2), hf] at k
  rw [hf] at h
  have h : St w3 (.keep (fun w => Sl w 1 (Value.int .u8) r3 kk) :: cellsA b1 (ChunkV.val (mkC C ps body)).cells.toList 57 :: cellsA p (ptc x q) 122 :: keepE x q :: H) := h
  simp only at k
  refine cut_i (fun _ w' => St w' (cellsA p (ptc { x with met := metOf x C } q) 122 :: .keep (fun w => Sl w 1 (Value.int .u8) r3 kk) :: H)) ?_ ?_
  · have h := h.drew
    refine h.lda (b := b1) (x := C.tag) rfl (h.lda (b := b1) (x := C.tsn) rfl (h.lda (b := b1) (x := C.window) rfl (h.ldaa (b := p) (x := x.e.Inter) rfl (cond_i (fun e => ?_) (fun e => ?_)))))
    · refine ldCh (b := b1) (v := mkC C ps body) h ?_
      refine c78 h (fun w' h => hc w' h.drop.drop.drop.drop) hl fun w6 h => ⟨h.holda (b := b1) (x := C.window) rfl, h.holda (b := b1) (x := C.tsn) rfl, h.holda (b := b1) (x := C.tag) rfl, ?_⟩
      refine h.stna (b := p) rfl rfl (Nat.le_of_ble_eq_true rfl) fun w7 h => ?_
      have h : St w7 (cellsA p (ptc { x with met := ⟨C.tag, C.tsn, C.window, interC C.ps⟩ } q) 122 :: _) := h
      have em : metOf x C = ⟨C.tag, C.tsn, C.window, interC C.ps⟩ := by unfold metOf; rw [e]; rfl
      rw [em]
      exact h.re
    · refine h.stna (b := p) rfl rfl (Nat.le_of_ble_eq_true rfl) fun w7 h => ?_
      have h : St w7 (cellsA p (ptc { x with met := ⟨C.tag, C.tsn, C.window, false⟩ } q) 122 :: _) := h
      have em : metOf x C = ⟨C.tag, C.tsn, C.window, false⟩ := by unfold metOf; rw [e]; rfl
      rw [em]
      exact h.re
  rintro g _ w5 h
  refine h.stna (b := p) rfl rfl (Nat.le_of_ble_eq_true rfl) fun w9 h => ?_
  have h : St w9 (cellsA p (ptc { x with met := metOf x C } r3) 122 :: .keep (fun w => Sl w 1 (Value.int .u8) r3 kk) :: H) := h
  refine c60 (x := { x with met := metOf x C }) (s := 2) h fun w10 h => ?_
  have hkl : kk.length ≤ 1048576 := by
    unfold find at hf
    rcases hfd : C.ps.find? (fun x => x.1 == 7) with _ | y
    · rw [hfd] at hf; cases hf
    · rw [hfd] at hf
      have := hl y (List.mem_of_find?_eq_some hfd)
      simp at hf
      rw [hf] at this
      exact this
  refine clone_keep h (keep.get h.g1) (by omega) fun r21 w11 h => ?_
  refine note1 (p := p) (x := { x with met := metOf x C, s := 2, tries := 0 }) (kind := 10) h fun r22 w12 h => k _ _ ?_
  exact PtA.mk1 (x := { x with met := metOf x C, echo := kk, s := 2, tries := 0 }) (q := r3) h)

set_option maxHeartbeats 2000000 in
/-- echoed -/
theorem c65 {C : CK} {ps body : SlV} {pv : List ParamV} {now : Int} {K : SlV → World → Prop} (h : St w (PtA p x :: H)) (hc : ∀ w', St w' H → Ch w' C ps body pv) (hB : BL C.body) (hk : x.e.Key.size ≤ 1000)
    (k : ∀ r w', St w' (OutA r (echoed x C now).2 :: PtA p (echoed x C now).1 :: H) → K r w') : callP P 65 #[.pointer (some ⟨p, 0, none⟩), ChunkV.val (mkC C ps body), .int .u64 now] w SlV.val K := sf65_call _ _ _ _ _ (by
  obtain ⟨q, h⟩ := PtA.un h
  unfold echoed at k
  have hkl : (kb x.e.Key).length ≤ 1048576 := by rw [kb_len]; omega
  generalize ho : opn (kb x.e.Key) C.body (IntKind.u32.wrap now) = o at k
  refine h.nw fun b1 w1 h => ?_
  have h := h.drew
  have fin : ∀ {w5 : World} {b6 : Nat}, St w5 (cellsA b6 (CookieV.val o.1).cells.toList 36 :: cellsA p (ptc x q) 122 :: keepE x q :: H) →
      cutP (Unit) (fun J_7 =>
        cond' (o.2 != (0 : Int)) (
        K SlV.nil w5.drew) (
        loadP w5.drew ((⟨b6, 0, none⟩ : Addr).add 0) 1 (Value.int .u32) fun v_10 =>
        loadP w5.drew (((⟨p, 0, none⟩ : Addr).add 0).add 0) 1 (Value.int .u32) fun v_11 =>
        cond' (v_10 != v_11) (
        K SlV.nil w5.drew) (
        loadP w5.drew ((⟨p, 0, none⟩ : Addr).add 5) 1 (Value.int .i64) fun v_13 =>
        cond' (decide (v_13 ≥ (8 : Int))) (
        K SlV.nil w5.drew) (
        loadP w5.drew ((⟨p, 0, none⟩ : Addr).add 5) 1 (Value.int .i64) fun v_15 =>
        cond' (decide (v_15 ≥ (2 : Int))) (
        loadP w5.drew ((⟨b6, 0, none⟩ : Addr).add 1) 1 (Value.int .u32) fun v_17 =>
        loadP w5.drew (((⟨p, 0, none⟩ : Addr).add 6).add 0) 1 (Value.int .u32) fun v_18 =>
        cond' (v_17 != v_18) (
        K SlV.nil w5.drew) (
        J_7 () w5.drew)) (
        J_7 () w5.drew))))) fun _ _ w_6 =>
        loadP w_6 ((⟨p, 0, none⟩ : Addr).add 5) 1 (Value.int .i64) fun v_19 =>
        cond' (decide (v_19 ≤ (2 : Int))) (
        loadP w_6 ((⟨b6, 0, none⟩ : Addr).add 1) 1 (Value.int .u32) fun v_20 =>
        loadP w_6 ((⟨b6, 0, none⟩ : Addr).add 3) 1 (Value.int .u32) fun v_21 =>
        loadP w_6 ((⟨b6, 0, none⟩ : Addr).add 4) 1 (Value.int .u32) fun v_22 =>
        loadP w_6 ((⟨b6, 0, none⟩ : Addr).add 7) 1 (Value.int .u8) fun v_23 =>
        storeP w_6 ((⟨p, 0, none⟩ : Addr).add 6) 4 (MetV.val ({ Tag := v_20, Tsn := v_21, Window := v_22, Inter := (v_23 == (1 : Int)) } : MetV)) fun w_7 =>
        callP P 60 #[(.pointer (some (⟨p, 0, none⟩ : Addr))), (.int .i64 (3 : Int))] w_7 unitV fun r_24 w_8 =>
        callP P 66 #[(.pointer (some (⟨p, 0, none⟩ : Addr))), (ChunkV.val (mkC { kind := 11, tsn := 0 } SlV.nil SlV.nil))] w_8 SlV.val fun r_25 w_9 =>
        K r_25 w_9) (
        callP P 66 #[(.pointer (some (⟨p, 0, none⟩ : Addr))), (ChunkV.val (mkC { kind := 11, tsn := 0 } SlV.nil SlV.nil))] w_6 SlV.val fun r_26 w_10 =>
        K r_26 w_10) := by
    intro w5 b6 h
    have h := h.drew
    unfold echoedK at k
    refine cut_i (fun _ w' => ¬ o.2 ≠ 0 ∧ ¬ o.1.Tag ≠ x.e.Tag ∧ ¬ x.s ≥ 8 ∧ ¬ (x.s ≥ 2 ∧ o.1.Peer ≠ x.met.Tag) ∧ St w' (cellsA b6 (CookieV.val o.1).cells.toList 36 :: cellsA p (ptc x q) 122 :: keepE x q :: H)) ?_ ?_
    · refine cond_i (fun e => ?_) (fun e => ?_)
      · rw [if_pos (by simpa using e)] at k
        exact k _ _ (OutA.none (PtA.mk h.drop))
      have e : ¬ o.2 ≠ 0 := by simpa using e
      rw [if_neg e] at k
      refine h.lda (b := b6) (x := o.1.Tag) rfl (h.ldaa (b := p) (x := x.e.Tag) rfl (cond_i (fun e2 => ?_) (fun e2 => ?_)))
      · rw [if_pos (by simpa using e2)] at k
        exact k _ _ (OutA.none (PtA.mk h.drop))
      have e2 : ¬ o.1.Tag ≠ x.e.Tag := by simpa using e2
      rw [if_neg e2] at k
      refine h.lda (b := p) (x := x.s) rfl (cond_i (fun e3 => ?_) (fun e3 => ?_))
      · rw [if_pos (by simpa using e3)] at k
        exact k _ _ (OutA.none (PtA.mk h.drop))
      have e3 : ¬ x.s ≥ 8 := by simpa using e3
      rw [if_neg e3] at k
      refine h.lda (b := p) (x := x.s) rfl (cond_i (fun e4 => ?_) (fun e4 => ?_))
      · have e4 : x.s ≥ 2 := by simpa using e4
        refine h.lda (b := b6) (x := o.1.Peer) rfl (h.ldaa (b := p) (x := x.met.Tag) rfl (cond_i (fun e5 => ?_) (fun e5 => ?_)))
        · have e5 : o.1.Peer ≠ x.met.Tag := by simpa using e5
          rw [if_pos ⟨e4, e5⟩] at k
          exact k _ _ (OutA.none (PtA.mk h.drop))
        · exact ⟨e, e2, e3, fun hh => hh.2 (by simpa using e5), h⟩
      · exact ⟨e, e2, e3, fun hh => by simp at e4; omega, h⟩
    rintro g _ w6 ⟨e1, e2, e3, e4, h⟩
    rw [if_neg e1, if_neg e2, if_neg e3, if_neg e4] at k
    refine h.lda (b := p) (x := x.s) rfl (cond_i (fun e => ?_) (fun e => ?_))
    · rw [if_pos (by simpa using e)] at k
      refine h.lda (b := b6) (x := o.1.Peer) rfl (h.lda (b := b6) (x := o.1.PeerTsn) rfl (h.lda (b := b6) (x := o.1.Window) rfl (h.lda (b := b6) (x := o.1.Features) rfl ?_)))
      refine h.stna (b := p) rfl rfl (Nat.le_of_ble_eq_true rfl) fun w7 h => ?_
      have h : St w7 (cellsA p (ptc { x with met := ⟨o.1.Peer, o.1.PeerTsn, o.1.Window, o.1.Features == 1⟩ } q) 122 :: cellsA b6 (CookieV.val o.1).cells.toList 36 :: keepE x q :: H) := h
      refine c60 (x := { x with met := ⟨o.1.Peer, o.1.PeerTsn, o.1.Window, o.1.Features == 1⟩ }) (s := 3) h fun w8 h => ?_
      refine note0 (p := p) (x := { x with met := ⟨o.1.Peer, o.1.PeerTsn, o.1.Window, o.1.Features == 1⟩, s := 3, tries := 0 }) (kind := 11) (tsn := 0) h.g1.drop fun r w9 h => k _ _ ?_
      exact PtA.mk1 (x := { x with met := ⟨o.1.Peer, o.1.PeerTsn, o.1.Window, o.1.Features == 1⟩, s := 3, tries := 0 }) h
    · rw [if_neg (by simpa using e)] at k
      exact note0 (p := p) (x := x) (kind := 11) (tsn := 0) h.drop fun r w9 h => k _ _ (PtA.mk1 h)
  refine h.ldaa (b := p) (x := x.e.Key) rfl (h.lda (b := b1) (x := body) rfl ?_)
  refine ⟨?_, ?_⟩
  · refine St.strB h (by omega) fun r4 w2 h => ⟨h.holda (b := b1) (x := body) rfl, ?_, ?_⟩
    · refine c23 (keep.get h) hkl (hc _ h.drop.drop.drop.drop).body hB fun w3 h' => ?_
      have h := h.thaw0 h'
      rw [ho]
      refine h.nw fun b6 w4 h => ?_
      have h : St w4 (cellsA b6 (CookieV.val zc).cells.toList 36 :: _) := h
      refine h.stn (b := b6) rfl rfl (Nat.le_of_ble_eq_true rfl) fun w5 h => ?_
      rw [putC] at h
      exact fin h.re
    · refine h.nw fun b27 w11 h => ⟨h.holda (b := b1) (x := body) rfl, ?_⟩
      refine c23 (keep.get h.g1) hkl (hc _ h.drop.drop.drop.drop.drop).body hB fun w12 h' => ?_
      have h := h.thaw0 h'
      rw [ho]
      have h : St w12 (cellsA b27 (CookieV.val zc).cells.toList 36 :: _) := h
      refine h.stn (b := b27) rfl rfl (Nat.le_of_ble_eq_true rfl) fun w13 h => ?_
      rw [putC] at h
      exact fin h.re
  · refine h.nw fun b49 w19 h => ⟨h.holda (b := b1) (x := body) rfl, ?_, ?_⟩
    · rw [add_lit]; exact h.holda (b := p) (x := x.e.Key) rfl
    refine St.strB h (by omega) fun r50 w20 h => ⟨h.holda (b := b1) (x := body) rfl, ?_⟩
    refine c23 (keep.get h) hkl (hc _ h.drop.drop.drop.drop.drop).body hB fun w21 h' => ?_
    have h := (h.thaw0 h').g1
    rw [ho]
    have h : St w21 (cellsA b49 (CookieV.val zc).cells.toList 36 :: _) := h
    refine h.stn (b := b49) rfl rfl (Nat.le_of_ble_eq_true rfl) fun w22 h => ?_
    rw [putC] at h
    exact fin h.re)
end
end Go.Vc.SA
