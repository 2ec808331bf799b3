/- Contracts. -/
import Derived.Test.YtcmooaimhloonaaDoorO5
namespace Go.Proofs.YtcmooaimhloonaaDoor
open Go.V
/-! ### The least pairs -/
def betw (M : Nat → Nat → Bool) (a b k : Nat) : Bool := (decide (a ≠ k) && M a k) && (decide (k ≠ b) && M k b)
def redB (M : Nat → Nat → Bool) (hs : List Nat) (a b : Nat) : Bool := (decide (a ≠ b) && M a b) && !hs.any (betw M a b)
def redRow (M : Nat → Nat → Bool) (hs : List Nat) (a : Nat) (bs : List Nat) : List (Int × Int) := (bs.filter (redB M hs a)).map fun (b : Nat) => ((a : Int), (b : Int))
def redTo (M : Nat → Nat → Bool) (hs : List Nat) (i k : Nat) : List (Int × Int) := ((hs.take i).flatMap fun a => redRow M hs a hs) ++ redRow M hs (hs.getD i 0) (hs.take k)
def red (M : Nat → Nat → Bool) (n : Nat) : List (Int × Int) := (hdsM M n).flatMap fun a => redRow M (hdsM M n) a (hdsM M n)
theorem redRow_len {M : Nat → Nat → Bool} {hs : List Nat} {a : Nat} {bs : List Nat} : (redRow M hs a bs).length ≤ bs.length := by unfold redRow; rw [List.length_map]; exact List.length_filter_le _ _
theorem flat_len {α : Type} {f : Nat → List α} {c : Nat} (hf : ∀ x, (f x).length ≤ c) : ∀ l : List Nat, (l.flatMap f).length ≤ l.length * c
  | [] => by simp
  | a :: l => by
    rw [List.flatMap_cons, List.length_append, List.length_cons, Nat.add_mul]
    have := flat_len hf l
    have := hf a
    omega
theorem redTo_len {M : Nat → Nat → Bool} {hs : List Nat} {i k : Nat} (hi : i ≤ hs.length) (hk : k ≤ hs.length) (hl : hs.length ≤ 200) : (redTo M hs i k).length ≤ 40200 := by
  unfold redTo
  rw [List.length_append]
  have h1 := flat_len (f := fun a => redRow M hs a hs) (c := hs.length) (fun x => redRow_len) (hs.take i)
  have h2 : (redRow M hs (hs.getD i 0) (hs.take k)).length ≤ (hs.take k).length := redRow_len
  have h3 : (hs.take i).length * hs.length ≤ 200 * 200 := Nat.mul_le_mul (by rw [List.length_take]; omega) hl
  rw [List.length_take] at h2
  omega
theorem redTo_step {M : Nat → Nat → Bool} {hs : List Nat} {i k : Nat} (hi : i < hs.length) (hk : k < hs.length) : redTo M hs i (k + 1) = redTo M hs i k ++ if redB M hs hs[i] hs[k] then [((hs[i] : Int), (hs[k] : Int))] else [] := by
  have e : hs.getD i 0 = hs[i] := by simp [List.getD, hi]
  unfold redTo redRow
  rw [e, List.take_succ_eq_append_getElem hk, List.filter_append, List.map_append, List.append_assoc]
  congr 2
  cases h : redB M hs hs[i] hs[k] with
  | true => simp [h]
  | false => simp [h]
theorem redTo_next {M : Nat → Nat → Bool} {hs : List Nat} {i k : Nat} (hi : i < hs.length) (hk : hs.length ≤ k) : redTo M hs i k = redTo M hs (i + 1) 0 := by
  have e : hs.getD i 0 = hs[i] := by simp [List.getD, hi]
  unfold redTo
  rw [e, List.take_of_length_le hk, List.take_succ_eq_append_getElem hi, List.flatMap_append]
  simp only [List.flatMap_cons, List.flatMap_nil, List.append_nil, redRow, List.take_zero, List.filter_nil, List.map_nil]
theorem redTo_zero {M : Nat → Nat → Bool} {hs : List Nat} : redTo M hs 0 0 = [] := by unfold redTo; simp [redRow]
theorem redTo_end {M : Nat → Nat → Bool} {hs : List Nat} : redTo M hs hs.length 0 = hs.flatMap fun a => redRow M hs a hs := by unfold redTo; simp [redRow]

theorem order_Reduce_1.c {c n l cc a b b5 b14 : Nat} {M : Nat → Nat → Bool} {O : List Nat} {A H : Hp} {p : Option Addr} {hs : List Nat} {K : Bool → Hp → Prop} (hu : RLO H c O n M) (hR : Rw A H p l cc (hs.map (clsM M n))) (hn : ∀ x ∈ hs, x < n) (hd : hs.Nodup)
    (h5 : rd H b5 0 = some (.pointer (some ⟨c, 0, none⟩))) (h14 : rd H b14 0 = some (.slice p l cc)) (ha : a < hs.length) (hb : b < hs.length) (hK : K (decide (hs[a] ≠ hs[b]) && M hs[a] hs[b]) H) : order_Reduce_1.C (a : Int) (b : Int) b5 b14 H K := by
  apply order_Reduce_1.of
  refine bcd (fun hne => ?_) (fun heq => ?_)
  · have hne' : hs[a] ≠ hs[b] := fun e => by have := nodup_inj hd ha hb e; omega
    refine ldP_i h5 (ldL_i h14 ?_)
    refine heads hR rfl ha (hn _ (List.getElem_mem ha)) ?_
    refine ldL_i h14 ?_
    refine heads hR rfl hb (hn _ (List.getElem_mem hb)) ?_
    refine rel_Rel_Has.c hu ?_
    rw [hasM_nat]
    rw [decide_eq_true hne', Bool.true_and] at hK
    exact hK
  · have e : a = b := by omega
    subst e
    simpa using hK

theorem order_Reduce.c {r : Option Addr} {n : Nat} {M : Nat → Nat → Bool} {H : Hp} {K : Option Addr → Nat → Nat → Hp → Prop} (hu : RN H r n M) (hn : n ≤ 200)
    (hK : ∀ p l cc H', Sn 2 pairC H' p l cc (red (clo M n) n) → PtOk p → New H p → Le H H' → K p l cc H') : order_Reduce.C r H K := by
  apply order_Reduce.of
  refine order_closed.c hu fun R O H1 u hT hO le1 => ?_
  intro b5 hb5
  have le2 : Le H1 (upd H1 b5 [.pointer none]) := .upd hb5
  have r5 : rd (upd H1 b5 [.pointer none]) b5 0 = some (.pointer none) := by rw [rd_upd_self]; rfl
  refine st r5 ?_
  have le2' : Le H1 (wr (upd H1 b5 [.pointer none]) b5 0 (.pointer (some ⟨R, 0, none⟩))) := le2.wr hb5
  have r5' := rd_wr_self (v := .pointer (some ⟨R, 0, none⟩)) r5
  generalize wr (upd H1 b5 [.pointer none]) b5 0 (.pointer (some ⟨R, 0, none⟩)) = H2 at *
  refine ldP_i r5' ?_
  refine order_circles.c (u.le le2') hT fun p l cc H3 hR le3 => ?_
  have hl := hR.len
  have hhl := hds_len (M := clo M n) (n := n)
  rw [crc_len] at hl
  have hnn : ∀ x ∈ hdsM (clo M n) n, x < n := fun x hx => (hds_mem.1 hx).1
  have hnd := hds_nodup (M := clo M n) (n := n)
  intro b14 hb14
  have le4 : Le H3 (upd H3 b14 [.slice none 0 0]) := .upd hb14
  have r14 : rd (upd H3 b14 [.slice none 0 0]) b14 0 = some (.slice none 0 0) := by rw [rd_upd_self]; rfl
  refine st r14 ?_
  have le4' : Le H3 (wr (upd H3 b14 [.slice none 0 0]) b14 0 (.slice p l cc)) := le4.wr hb14
  have r14' := rd_wr_self (v := .slice p l cc) r14
  generalize wr (upd H3 b14 [.slice none 0 0]) b14 0 (.slice p l cc) = H4 at *
  refine ldL_i r14' ?_
  have u4 := u.le ((le2'.trans le3).trans le4')
  have R4 : Rw H2 H4 p l cc ((hdsM (clo M n) n).map (clsM (clo M n) n)) := hR.le le4'
  have r5'' := (le3.trans le4').rd r5'
  have le14 : Le H H4 := (le1.trans le2').trans (le3.trans le4')
  have hK' : ∀ p l cc H', Sn 2 pairC H' p l cc ((hdsM (clo M n) n).flatMap fun a => redRow (clo M n) (hdsM (clo M n) n) a (hdsM (clo M n) n)) → PtOk p → New H p → Le H H' → K p l cc H' := hK
  generalize hdsM (clo M n) n = hs at *
  generalize clo M n = N at *
  refine ⟨fun op ol oc t Hx => ∃ t' : Nat, t = t' ∧ t' ≤ hs.length ∧ Le H4 Hx ∧ Buf 2 H4 Hx op ol oc ((redTo N hs t' 0).flatMap pairC), fun _ _ _ t _ => (hs.length - t).toNat, ⟨0, rfl, by omega, .refl _, by rw [redTo_zero]; exact Buf.none⟩, ?_⟩
  rintro op ol oc t Hx ⟨t, rfl, ht, lx, hB⟩
  refine bcd (fun h => ?_) (fun h => ?_)
  · have hth : t < hs.length := by omega
    refine ldL_i (lx.rd r14') ?_
    refine ⟨fun op ol oc x Hx => ∃ x' : Nat, x = x' ∧ x' ≤ hs.length ∧ Le H4 Hx ∧ Buf 2 H4 Hx op ol oc ((redTo N hs t x').flatMap pairC), fun _ _ _ x _ => (hs.length - x).toNat, ⟨0, rfl, by omega, lx, hB⟩, ?_⟩
    rintro op ol oc x Hy ⟨x, rfl, hx, ly, hBy⟩
    refine bcd (fun h => ?_) (fun h => ?_)
    · have hxh : x < hs.length := by omega
      have uy := u4.le ly
      have Ry := R4.le ly
      have skip : redB N hs hs[t] hs[x] = false → CHK .i64 ((x : Int) + 1) fun x41 => (∃ x' : Nat, x41 = x' ∧ x' ≤ hs.length ∧ Le H4 Hy ∧ Buf 2 H4 Hy op ol oc ((redTo N hs t x').flatMap pairC)) ∧ (hs.length - x41).toNat < (hs.length - (x : Int)).toNat := fun e =>
        chk (by omega) ⟨⟨x + 1, by omega, by omega, ly, by rw [redTo_step hth hxh, e]; simpa using hBy⟩, by omega⟩
      refine order_Reduce_1.c uy Ry hnn hnd (ly.rd r5'') (ly.rd r14') hth hxh ?_
      refine bcn (fun h1 => skip (by unfold redB; rw [h1, Bool.false_and])) (fun h1 => ?_)
      refine ldL_i (ly.rd r14') ?_
      refine ⟨fun k Hz => ∃ k' : Nat, k = k' ∧ k' ≤ hs.length ∧ Hy = Hz ∧ (hs.take k').any (betw N hs[t] hs[x]) = false, fun k _ => (hs.length - k).toNat, ⟨0, rfl, by omega, rfl, rfl⟩, ?_⟩
      rintro k _ ⟨k, rfl, hk, rfl, hany⟩
      refine bcd (fun h => ?_) (fun h => ?_)
      · have hkh : k < hs.length := by omega
        have next : betw N hs[t] hs[x] hs[k] = false → CHK .i64 ((k : Int) + 1) fun x66 => (∃ k' : Nat, x66 = k' ∧ k' ≤ hs.length ∧ Hy = Hy ∧ (hs.take k').any (betw N hs[t] hs[x]) = false) ∧ (hs.length - x66).toNat < (hs.length - (k : Int)).toNat := fun e =>
          chk (by omega) ⟨⟨k + 1, by omega, by omega, rfl, by rw [List.take_succ_eq_append_getElem hkh, List.any_append, hany]; simp [e]⟩, by omega⟩
        refine order_Reduce_1.c uy Ry hnn hnd (ly.rd r5'') (ly.rd r14') hth hkh ?_
        refine bc_i (fun h2 => ?_) (fun h2 => next (by unfold betw; rw [h2, Bool.false_and]))
        refine order_Reduce_1.c uy Ry hnn hnd (ly.rd r5'') (ly.rd r14') hkh hxh ?_
        refine bc_i (fun h3 => skip ?_) (fun h3 => next (by unfold betw; rw [h3, Bool.and_false]))
        have : hs.any (betw N hs[t] hs[x]) = true := List.any_eq_true.2 ⟨hs[k], List.getElem_mem hkh, by unfold betw; rw [h2, h3]; rfl⟩
        unfold redB; rw [this]; simp
      · have hred : redB N hs hs[t] hs[x] = true := by
          rw [List.take_of_length_le (by omega)] at hany
          unfold redB; rw [h1, hany]; rfl
        refine ldL_i (ly.rd r14') ?_
        refine heads Ry rfl hth (hnn _ (List.getElem_mem hth)) ?_
        refine ldL_i (ly.rd r14') ?_
        refine heads Ry rfl hxh (hnn _ (List.getElem_mem hxh)) ?_
        have hlen := redTo_len (M := N) (i := t) (k := x) (hs := hs) (by omega) (by omega) (by omega)
        have hol := hBy.1
        rw [flatMap_len (n := 2) (fun _ => rfl)] at hol
        refine hBy.pushM (te := te_api_Pair) rfl (by decide) rfl (by decide) rfl rfl (by simp [te_api_Pair]; omega) (fun p' c' H' hB' _ hm => ?_) ly
        refine chk (by omega) ⟨⟨x + 1, by omega, by omega, hm.le ly fun y hy => hBy.fr y 0 (blkL_mem hBy.zero hy), ?_⟩, by first | omega | (dsimp only; omega)⟩
        rw [redTo_step hth hxh, hred, if_pos rfl, List.flatMap_append]
        simpa [pairC] using hB'
    · refine chk (by omega) ⟨⟨t + 1, by omega, by omega, ly, ?_⟩, by first | omega | (dsimp only; omega)⟩
      rw [← redTo_next hth (k := x) (by omega)]; exact hBy
  · obtain rfl : t = hs.length := by omega
    rw [redTo_end] at hB
    exact hK' _ _ _ _ (Buf.sn (f := pairC) (n := 2) (fun _ => rfl) (by decide) hB) hB.pt (fun b o e => none_of_le le14 (hB.fr b o e)) (le14.trans lx)

theorem centoref2_Rel_Reduce.c {m n : Nat} {M : Nat → Nat → Bool} {O : List Nat} {H : Hp} {K : Option Addr → Nat → Nat → Hp → Prop} (hu : RFO H m O n M)
    (hK : ∀ p l cc H', Sn 2 pairC H' p l cc (red M n) → Le H H' → K p l cc H') : centoref2_Rel_Reduce.C (some ⟨m, 0, none⟩) H K := by
  apply centoref2_Rel_Reduce.of
  have hlim := hu.lim
  refine centoref2_Rel_Circles.c hu fun p l cc H4 hR le4 => ?_
  have hl := hR.len
  have hhl := hds_len (M := M) (n := n)
  rw [crc_len] at hl
  have hnn : ∀ x ∈ hdsM M n, x < n := fun x hx => (hds_mem.1 hx).1
  have hnd := hds_nodup (M := M) (n := n)
  have R4 : Rw H H4 p l cc ((hdsM M n).map (clsM M n)) := hR
  have hK' : ∀ p l cc H', Sn 2 pairC H' p l cc ((hdsM M n).flatMap fun a => redRow M (hdsM M n) a (hdsM M n)) → Le H H' → K p l cc H' := hK
  generalize hdsM M n = hs at *
  have ix : ∀ {a b : Nat} (ha : a < hs.length) (hb : b < hs.length), decide (hs[a] ≠ hs[b]) = decide (¬ (a : Int) = (b : Int)) := fun ha hb => decide_eq_decide.2 ⟨fun h e => h (by congr 1; omega), fun h e => h (by have := nodup_inj hnd ha hb e; omega)⟩
  refine ⟨fun op ol oc t Hx => ∃ t' : Nat, t = t' ∧ t' ≤ hs.length ∧ Le H4 Hx ∧ Buf 2 H4 Hx op ol oc ((redTo M hs t' 0).flatMap pairC), fun _ _ _ t _ => (hs.length - t).toNat, ⟨0, rfl, by omega, .refl _, by rw [redTo_zero]; exact Buf.none⟩, ?_⟩
  rintro op ol oc t Hx ⟨t, rfl, ht, lx, hB⟩
  refine bcd (fun h => ?_) (fun h => ?_)
  · have hth : t < hs.length := by omega
    refine ⟨fun op ol oc x Hx => ∃ x' : Nat, x = x' ∧ x' ≤ hs.length ∧ Le H4 Hx ∧ Buf 2 H4 Hx op ol oc ((redTo M hs t x').flatMap pairC), fun _ _ _ x _ => (hs.length - x).toNat, ⟨0, rfl, by omega, lx, hB⟩, ?_⟩
    rintro op ol oc x Hy ⟨x, rfl, hx, ly, hBy⟩
    refine bcd (fun h => ?_) (fun h => ?_)
    · have hxh : x < hs.length := by omega
      have uy := hu.le (le4.trans ly)
      have Ry := R4.le ly
      have skip : redB M hs hs[t] hs[x] = false → CHK .i64 ((x : Int) + 1) fun x41 => (∃ x' : Nat, x41 = x' ∧ x' ≤ hs.length ∧ Le H4 Hy ∧ Buf 2 H4 Hy op ol oc ((redTo M hs t x').flatMap pairC)) ∧ (hs.length - x41).toNat < (hs.length - (x : Int)).toNat := fun e =>
        chk (by omega) ⟨⟨x + 1, by omega, by omega, ly, by rw [redTo_step hth hxh, e]; simpa using hBy⟩, by omega⟩
      refine bcd (fun heq => skip ?_) (fun hne => ?_)
      · unfold redB; rw [ix hth hxh, decide_eq_false (by simp [heq])]; rfl
      have hne1 : decide (hs[t] ≠ hs[x]) = true := by rw [ix hth hxh]; exact decide_eq_true hne
      refine uy.look Ry hnn rfl hth rfl hxh ?_
      refine bcn (fun h1 => skip (by unfold redB; rw [h1]; simp)) (fun h1 => ?_)
      refine ⟨fun bt k Hz => ∃ k' : Nat, k = k' ∧ k' ≤ hs.length ∧ Hy = Hz ∧ bt = (hs.take k').any (betw M hs[t] hs[x]), fun _ k _ => (hs.length - k).toNat, ⟨0, rfl, by omega, rfl, rfl⟩, ?_⟩
      rintro bt k _ ⟨k, rfl, hk, rfl, hany⟩
      refine bcd (fun h => ?_) (fun h => ?_)
      · have hkh : k < hs.length := by omega
        have next : ∀ v : Bool, v = (bt || betw M hs[t] hs[x] hs[k]) → CHK .i64 ((k : Int) + 1) fun x66 => (∃ k' : Nat, x66 = k' ∧ k' ≤ hs.length ∧ Hy = Hy ∧ v = (hs.take k').any (betw M hs[t] hs[x])) ∧ (hs.length - x66).toNat < (hs.length - (k : Int)).toNat := fun v e =>
          chk (by omega) ⟨⟨k + 1, by omega, by omega, rfl, by rw [e, List.take_succ_eq_append_getElem hkh, List.any_append, hany]; simp⟩, by omega⟩
        have ik := ix (a := t) (b := k) hth hkh
        have kx := ix (a := k) (b := x) hkh hxh
        refine bc_i (fun h2 => next true (by rw [h2]; rfl)) (fun h2 => ?_)
        refine bcd (fun hkt => ?_) (fun hkt => next false ?_)
        · have ik' : decide (hs[t] ≠ hs[k]) = true := by rw [ik]; exact decide_eq_true (by omega)
          refine bcd (fun hkx => ?_) (fun hkx => next false ?_)
          · have kx' : decide (hs[k] ≠ hs[x]) = true := by rw [kx]; exact decide_eq_true hkx
            refine uy.look Ry hnn rfl hth rfl hkh ?_
            refine bc_i (fun h3 => uy.look Ry hnn rfl hkh rfl hxh ?_) (fun h3 => next false ?_)
            · exact next _ (by unfold betw; rw [h2, ik', kx', h3]; simp)
            · unfold betw; rw [h2, h3]; simp
          · have kx' : decide (hs[k] ≠ hs[x]) = false := by rw [kx]; exact decide_eq_false hkx
            unfold betw; rw [h2, kx']; simp
        · have ik' : decide (hs[t] ≠ hs[k]) = false := by rw [ik]; exact decide_eq_false (by omega)
          unfold betw; rw [h2, ik']; simp
      · rw [List.take_of_length_le (by omega)] at hany
        refine bcn (fun h2 => ?_) (fun h2 => skip ?_)
        · have hred : redB M hs hs[t] hs[x] = true := by unfold redB; rw [h1, hne1, ← hany, h2]; rfl
          refine heads Ry rfl hth (hnn _ (List.getElem_mem hth)) ?_
          refine heads Ry rfl hxh (hnn _ (List.getElem_mem hxh)) ?_
          have hlen := redTo_len (M := M) (i := t) (k := x) (hs := hs) (by omega) (by omega) (by omega)
          have hol := hBy.1
          rw [flatMap_len (n := 2) (fun _ => rfl)] at hol
          refine hBy.pushM (te := te_api_Pair) rfl (by decide) rfl (by decide) rfl rfl (by simp [te_api_Pair]; omega) (fun p' c' H' hB' _ hm => ?_) ly
          refine chk (by omega) ⟨⟨x + 1, by omega, by omega, hm.le ly fun y hy => hBy.fr y 0 (blkL_mem hBy.zero hy), ?_⟩, by first | omega | (dsimp only; omega)⟩
          rw [redTo_step hth hxh, hred, if_pos rfl, List.flatMap_append]
          simpa [pairC] using hB'
        · unfold redB; rw [← hany, h2]; simp
    · refine chk (by omega) ⟨⟨t + 1, by omega, by omega, ly, ?_⟩, by first | omega | (dsimp only; omega)⟩
      rw [← redTo_next hth (k := x) (by omega)]; exact hBy
  · obtain rfl : t = hs.length := by omega
    rw [redTo_end] at hB
    exact hK' _ _ _ _ (Buf.sn (f := pairC) (n := 2) (fun _ => rfl) (by decide) hB) (le4.trans lx)
end Go.Proofs.YtcmooaimhloonaaDoor
