/- Contracts and plain laws that the claim rests on, for every input: no condition. -/
import Derived.Test.YtganockeifkecaaGreatZ4
namespace Go.Proofs.YtganockeifkecaaGreat
open Go.V
/-! ### A copy -/
def hdP (x : BL × HD) : List (Option Addr) := [x.2.ap, x.2.ep, x.2.kp]
def OwnH (A H : Hp) (h : Hk) (d : HD) : Prop := Buf 1 A H d.ap d.al d.ac (h.adds.map sv) ∧ Buf 4 A H d.ep d.el d.ec (h.edges.flatMap edC) ∧ Buf 2 A H d.kp d.kl d.kc (h.kills.flatMap lidC)
def RdH (H : Hp) (h : Hk) (d : HD) : Prop := Sl sv H d.ap d.al d.ac h.adds ∧ Sn 4 edC H d.ep d.el d.ec h.edges ∧ Sn 2 lidC H d.kp d.kl d.kc h.kills
def There (H : Hp) (p : Option Addr) : Prop := ∀ b o, p = some ⟨b, o, none⟩ → H b ≠ none
def Ok (H : Hp) (L : List (Option Addr)) : Prop := L.Pairwise Apart ∧ ∀ q ∈ L, There H q
def OwnR (A H : Hp) (hp : Option Addr) (hl hc : Nat) (hs : List Hk) (zs : List (BL × HD)) : Prop := zs.length = hs.length ∧ Buf 4 A H hp hl hc (zs.flatMap hdC) ∧ ∀ j (h1 : j < hs.length) (h2 : j < zs.length), zs[j].1 = hs[j].path ∧ OwnH A H hs[j] zs[j].2
/-- A patch in memory of its own. -/
def Own (A H : Hp) (id : Int) (dp : Option Addr) (dl dc : Nat) (mp : Option Addr) (ml mc : Nat) (qp : Option Addr) (ql qc : Nat) (hp : Option Addr) (hl hc : Nat) (x : Pt) (zs : List (BL × HD)) : Prop :=
  id = x.id ∧ Buf 1 A H dp dl dc (x.deps.map fU) ∧ Buf 1 A H mp ml mc (x.makes.map sv) ∧ Buf 1 A H qp ql qc (x.drops.map sv) ∧ OwnR A H hp hl hc x.hunks zs ∧ (dp :: mp :: qp :: hp :: zs.flatMap hdP).Pairwise Apart
section
variable {A A' H H' : Hp} {p : Option Addr} {l cc : Nat} {O : List Nat}
theorem apThere {q : Option Addr} (h : There H p) (hn : New H q) : Apart p q := fun b o o' e e' => h b o e (hn b o' e')
theorem bThere {s : Nat} {cells : List Value} (h : Buf s A H p l cc cells) : There H p := fun _ _ e => h.there e
theorem There.was (h : There H p) (hw : Was H H') : There H' p := fun b o e hn => h b o e (hw b hn)
theorem Ok.was {L : List (Option Addr)} (h : Ok H L) (hw : Was H H') : Ok H' L := ⟨h.1, fun q hq => (h.2 q hq).was hw⟩
theorem Ok.snoc {L : List (Option Addr)} (h : Ok H L) (hn : New H p) (ht : There H' p) (hl : Le H H') : Ok H' (L ++ [p]) := by
  refine ⟨List.pairwise_append.2 ⟨h.1, by simp, fun a ha b hb => ?_⟩, fun q hq => ?_⟩
  · simp at hb; subst hb; exact apThere (h.2 a ha) hn
  · rcases List.mem_append.1 hq with hq | hq
    · exact (h.2 q hq).was hl.was
    · simp at hq; subst hq; exact ht
theorem bModA {s : Nat} {cells : List Value} {b : Nat} (h : Buf s A H p l cc cells) (hm : Mod [b] H H') (ha : Apart (some ⟨b, 0, none⟩) p) : Buf s A H' p l cc cells := h.mod hm fun b' o e hb => by
  simp at hb; subst hb; exact ha _ _ _ rfl e
theorem OwnH.le {h : Hk} {d : HD} (x : OwnH A H h d) (hl : Le H H') : OwnH A H' h d := ⟨x.1.le hl, x.2.1.le hl, x.2.2.le hl⟩
theorem OwnH.mod {h : Hk} {z : BL × HD} {b : Nat} (x : OwnH A H h z.2) (hm : Mod [b] H H') (ha : ∀ q ∈ hdP z, Apart (some ⟨b, 0, none⟩) q) : OwnH A H' h z.2 :=
  ⟨bModA x.1 hm (ha _ (by simp [hdP])), bModA x.2.1 hm (ha _ (by simp [hdP])), bModA x.2.2 hm (ha _ (by simp [hdP]))⟩
theorem OwnH.back {h : Hk} {d : HD} (x : OwnH A' H h d) (hl : Le A A') : OwnH A H h d := ⟨bBack x.1 hl, bBack x.2.1 hl, bBack x.2.2 hl⟩
theorem OwnH.rdH {h : Hk} {d : HD} (x : OwnH A H h d) : RdH H h d := ⟨x.1.sl, x.2.1.sn edC_len (by decide), x.2.2.sn lidC_len (by decide)⟩
theorem HkH.rows {hs : List Hk} (h : HkH H p l cc hs) : ∃ zs : List (BL × HD), zs.length = hs.length ∧ Sn 4 hdC H p l cc zs ∧ ∀ j (h1 : j < hs.length) (h2 : j < zs.length), zs[j].1 = hs[j].path ∧ RdH H hs[j] zs[j].2 := by
  obtain ⟨e, hc, h0 | ⟨b, o, rfl, hh⟩⟩ := h
  · subst h0; exact ⟨[], rfl, ⟨e, hc, .inl rfl⟩, fun j h1 => by simp at h1⟩
  · have hh' : ∀ i : Fin hs.length, ∃ d : HD, (∀ j v, (hdC (hs[i].path, d))[j]? = some v → rd H b (o + i * 4 + j) = some v) ∧ RdH H hs[i] d := fun i => by
      obtain ⟨ap, al, ac, ep, el, ec, kp, kl, kc, h1, h2, h3, h4, h5, h6, h7⟩ := hh i i.2
      refine ⟨⟨ap, al, ac, ep, el, ec, kp, kl, kc⟩, fun j v hv => ?_, h5, h6, h7⟩
      match j, hv with
      | 0, hv => simp [hdC] at hv; subst hv; exact h1
      | 1, hv => simp [hdC] at hv; subst hv; exact h2
      | 2, hv => simp [hdC] at hv; subst hv; exact h3
      | 3, hv => simp [hdC] at hv; subst hv; exact h4
      | j + 4, hv => simp [hdC] at hv
    obtain ⟨f, hf⟩ := Classical.skolem.1 hh'
    refine ⟨List.ofFn fun i : Fin hs.length => (hs[i].path, f i), by simp, ⟨by simp; exact e, hc, .inr ⟨b, o, rfl, fun i hi j v hv => ?_⟩⟩, fun j h1 h2 => ?_⟩
    · have hi' : i < hs.length := by simpa using hi
      rw [List.getElem_ofFn] at hv
      exact (hf ⟨i, hi'⟩).1 j v hv
    · rw [List.getElem_ofFn]
      exact ⟨rfl, (hf ⟨j, h1⟩).2⟩
theorem HkH.of {hs : List Hk} {zs : List (BL × HD)} (hz : zs.length = hs.length) (h : Sn 4 hdC H p l cc zs) (hh : ∀ j (h1 : j < hs.length) (h2 : j < zs.length), zs[j].1 = hs[j].path ∧ RdH H hs[j] zs[j].2) : HkH H p l cc hs := by
  obtain ⟨e, hc, h0 | ⟨b, o, rfl, hr⟩⟩ := h
  · subst h0
    have : hs = [] := List.length_eq_zero_iff.1 (by rw [← hz]; rfl)
    subst this
    exact ⟨e, hc, .inl rfl⟩
  · refine ⟨by omega, hc, .inr ⟨b, o, rfl, fun i hi => ?_⟩⟩
    obtain ⟨e1, e2, e3, e4⟩ := hh i hi (by omega)
    have r := hr i (by omega)
    exact ⟨_, _, _, _, _, _, _, _, _, by rw [← e1]; exact r 0 _ rfl, r 1 _ rfl, r 2 _ rfl, r 3 _ rfl, e2, e3, e4⟩
theorem OwnR.hkH {hs : List Hk} {zs : List (BL × HD)} (h : OwnR A H p l cc hs zs) : HkH H p l cc hs := HkH.of h.1 (h.2.1.sn hdC_len (by decide)) fun j h1 h2 => ⟨(h.2.2 j h1 h2).1, (h.2.2 j h1 h2).2.rdH⟩
theorem Own.pt {id : Int} {dp mp qp hp : Option Addr} {dl dc ml mc ql qc hl hc : Nat} {x : Pt} {zs : List (BL × HD)} (h : Own A H id dp dl dc mp ml mc qp ql qc hp hl hc x zs) : PtS H id dp dl dc mp ml mc qp ql qc hp hl hc x := ⟨h.1, h.2.1.sl, h.2.2.1.sl, h.2.2.2.1.sl, h.2.2.2.2.1.hkH⟩
theorem rsD {zs : List (BL × HD)} (h : Sn 4 hdC H p l cc zs) {k : Nat} {e : Int} (he : e = (k : Int)) (hk : k < zs.length) {F : ByteArray → Option Addr → Nat → Nat → Option Addr → Nat → Nat → Option Addr → Nat → Nat → Prop}
    (hF : F (mkB zs[k].1) zs[k].2.ap zs[k].2.al zs[k].2.ac zs[k].2.ep zs[k].2.el zs[k].2.ec zs[k].2.kp zs[k].2.kl zs[k].2.kc) :
    IDX e l fun k => NIL p fun b o => ldS (rd H b (o + (k * 4))) fun x => ldL (rd H b ((o + (k * 4)) + 1)) fun ap al ac => ldL (rd H b (((o + (k * 4)) + 1) + 1)) fun ep el ec => ldL (rd H b ((((o + (k * 4)) + 1) + 1) + 1)) fun kp kl kc => F x ap al ac ep el ec kp kl kc := by
  have hl := h.len
  obtain ⟨b, o, rfl, hh⟩ := h.at hk
  exact idxN k he (by omega) (nil (ldS_i (hh k hk 0 _ rfl) (ldL_i (hh k hk 1 _ rfl) (ldL_i (hh k hk 2 _ rfl) (ldL_i (hh k hk 3 _ rfl) hF)))))
theorem hd_set : ∀ (zs : List (BL × HD)) (i : Nat) (h : i < zs.length) (d : HD), (((zs.flatMap hdC).set (i * 4 + 1) (.slice d.ap d.al d.ac)).set (i * 4 + 2) (.slice d.ep d.el d.ec)).set (i * 4 + 3) (.slice d.kp d.kl d.kc) = (zs.set i (zs[i].1, d)).flatMap hdC
  | z :: zs, 0, _, d => by simp [hdC]
  | z :: zs, i + 1, h, d => by
    have e : ∀ k, (i + 1) * 4 + k = (hdC z).length + (i * 4 + k) := fun k => by rw [hdC_len]; omega
    rw [List.flatMap_cons, e, e, e]
    simp only [List.set_append_right _ _ (Nat.le_add_right _ _), Nat.add_sub_cancel_left]
    rw [hd_set zs i (by simpa using h) d]
    rfl
theorem take_set {α : Type} {ys : List α} {i : Nat} {v : α} (h : i < ys.length) : (ys.set i v).take (i + 1) = ys.take i ++ [v] := by
  rw [List.take_succ_eq_append_getElem (by simpa using h), List.getElem_set_self, List.take_set_of_le (Nat.le_refl _)]
theorem was_wr {b o : Nat} {v : Value} : Was H (wr H b o v) := fun q h => by
  unfold wr at h
  split at h
  · subst_vars; cases e : H q with
    | none => rfl
    | some c => rw [e] at h; cases h
  · exact h
theorem put4 {b : Nat} {id : Int} {dp mp qp hp : Option Addr} {dl dc ml mc ql qc hl hc : Nat} (h : D5 H b id dp dl dc mp ml mc qp ql qc hp hl hc) {dp' mp' qp' hp' : Option Addr} {dl' dc' ml' mc' ql' qc' hl' hc' : Nat} {F : Hp → Prop}
    (hF : ∀ H', D5 H' b id dp' dl' dc' mp' ml' mc' qp' ql' qc' hp' hl' hc' → Mod [b] H H' → Was H H' → F H') :
    ST H b 1 (.slice dp' dl' dc') fun H1 => ST H1 b 2 (.slice mp' ml' mc') fun H2 => ST H2 b 3 (.slice qp' ql' qc') fun H3 => ST H3 b 4 (.slice hp' hl' hc') F := by
  have r1 := h.2.1
  have r2 : rd (wr H b 1 (.slice dp' dl' dc')) b 2 = some (.slice mp ml mc) := by rw [rd_wr_off (by decide)]; exact h.2.2.1
  have r3 : rd (wr (wr H b 1 (.slice dp' dl' dc')) b 2 (.slice mp' ml' mc')) b 3 = some (.slice qp ql qc) := by rw [rd_wr_off (by decide), rd_wr_off (by decide)]; exact h.2.2.2.1
  have r4 : rd (wr (wr (wr H b 1 (.slice dp' dl' dc')) b 2 (.slice mp' ml' mc')) b 3 (.slice qp' ql' qc')) b 4 = some (.slice hp hl hc) := by rw [rd_wr_off (by decide), rd_wr_off (by decide), rd_wr_off (by decide)]; exact h.2.2.2.2
  refine st r1 (st r2 (st r3 (st r4 (hF _ ⟨?_, ?_, ?_, ?_, ?_⟩ ((((Mod.refl.wr (.inl (by simp))).wr (.inl (by simp))).wr (.inl (by simp))).wr (.inl (by simp))) (((was_wr.trans was_wr).trans was_wr).trans was_wr)))))
  · rw [rd_wr_off (by decide), rd_wr_off (by decide), rd_wr_off (by decide), rd_wr_off (by decide)]; exact h.1
  · rw [rd_wr_off (by decide), rd_wr_off (by decide), rd_wr_off (by decide)]; exact rd_wr_self r1
  · rw [rd_wr_off (by decide), rd_wr_off (by decide)]; exact rd_wr_self r2
  · rw [rd_wr_off (by decide)]; exact rd_wr_self r3
  · exact rd_wr_self r4
theorem put5 {b : Nat} {id id' : Int} {dp mp qp hp : Option Addr} {dl dc ml mc ql qc hl hc : Nat} (h : D5 H b id dp dl dc mp ml mc qp ql qc hp hl hc) {dp' mp' qp' hp' : Option Addr} {dl' dc' ml' mc' ql' qc' hl' hc' : Nat} {F : Hp → Prop}
    (hF : ∀ H', D5 H' b id' dp' dl' dc' mp' ml' mc' qp' ql' qc' hp' hl' hc' → Mod [b] H H' → Was H H' → F H') :
    ST H b 0 (.int .u32 id') fun H0 => ST H0 b 1 (.slice dp' dl' dc') fun H1 => ST H1 b 2 (.slice mp' ml' mc') fun H2 => ST H2 b 3 (.slice qp' ql' qc') fun H3 => ST H3 b 4 (.slice hp' hl' hc') F := by
  refine st h.1 (put4 (id := id') (dp := dp) (dl := dl) (dc := dc) (mp := mp) (ml := ml) (mc := mc) (qp := qp) (ql := ql) (qc := qc) (hp := hp) (hl := hl) (hc := hc) ⟨rd_wr_self h.1, ?_, ?_, ?_, ?_⟩ fun H' d m w => hF H' d (Mod.trans (Mod.refl.wr (.inl (by simp))) m) (was_wr.trans w))
  · rw [rd_wr_off (by decide)]; exact h.2.1
  · rw [rd_wr_off (by decide)]; exact h.2.2.1
  · rw [rd_wr_off (by decide)]; exact h.2.2.2.1
  · rw [rd_wr_off (by decide)]; exact h.2.2.2.2
end
end Go.Proofs.YtganockeifkecaaGreat
namespace Go.Proofs.YtganockeifkecaaGreat
open Go.V
section
variable {H : Hp} {id : Int} {dp mp qp hp : Option Addr} {dl dc ml mc ql qc hl hc : Nat} {x : Pt}
theorem patch_Copy.c {K : Int → Option Addr → Nat → Nat → Option Addr → Nat → Nat → Option Addr → Nat → Nat → Option Addr → Nat → Nat → Hp → Prop} (h : PtS H id dp dl dc mp ml mc qp ql qc hp hl hc x) (hs : PtSm x)
    (hK : ∀ p1 c1 p2 c2 p3 c3 p4 c4 zs H', Le H H' → Own H H' x.id p1 dl c1 p2 ml c2 p3 ql c3 p4 hl c4 x zs → K x.id p1 dl c1 p2 ml c2 p3 ql c3 p4 hl c4 H') : patch_Copy.C id dp dl dc mp ml mc qp ql qc hp hl hc H K := by
  apply patch_Copy.of
  intro b hb
  have l1 := Le.upd (c := [.int .u32 id, .slice dp dl dc, .slice mp ml mc, .slice qp ql qc, .slice hp hl hc]) hb
  have d := D5.new (H := H) (b := b) (id := id) (dp := dp) (dl := dl) (dc := dc) (mp := mp) (ml := ml) (mc := mc) (qp := qp) (ql := ql) (qc := qc) (hp := hp) (hl := hl) (hc := hc)
  revert l1 d
  generalize upd H b [.int .u32 id, .slice dp dl dc, .slice mp ml mc, .slice qp ql qc, .slice hp hl hc] = H1
  intro l1 d
  have d0 := d
  obtain ⟨rfl, hd, hm, hq, hh⟩ := h
  intro b2 hb2
  have l2 := Le.upd (c := [.int .u32 (0 : Int), .slice none 0 0, .slice none 0 0, .slice none 0 0, .slice none 0 0]) hb2
  have e2 := D5.new (H := H1) (b := b2) (id := (0 : Int)) (dp := none) (dl := 0) (dc := 0) (mp := none) (ml := 0) (mc := 0) (qp := none) (ql := 0) (qc := 0) (hp := none) (hl := 0) (hc := 0)
  revert l2 e2
  generalize upd H1 b2 [.int .u32 (0 : Int), .slice none 0 0, .slice none 0 0, .slice none 0 0, .slice none 0 0] = H2
  intro l2 e2
  have d := d.le l2
  have l02 := l1.trans l2
  have sd := hs.deps
  have sm := hs.makes
  have sq := hs.drops
  have sh := hs.hunks
  have ed := hd.len
  have em := hm.len
  have eq := hq.len
  have eh := hh.1
  have ok2 : Ok H2 [some ⟨b, 0, none⟩, some ⟨b2, 0, none⟩] := by
    refine ⟨?_, fun q hq' b' o e => ?_⟩
    · refine List.pairwise_cons.2 ⟨fun a ha => ?_, by simp⟩
      simp at ha; subst ha
      intro b' o o' f g
      simp only [Option.some.injEq, Addr.mk.injEq] at f g
      obtain ⟨rfl, _⟩ := f
      obtain ⟨rfl, _⟩ := g
      exact d.there (by have := none_of_le (Le.refl H1) hb2; exact absurd this (ne_none_of_rd (d0.1)))
    · simp at hq'
      rcases hq' with rfl | rfl
      · simp only [Option.some.injEq, Addr.mk.injEq] at e; obtain ⟨rfl, _⟩ := e; exact d.there
      · simp only [Option.some.injEq, Addr.mk.injEq] at e; obtain ⟨rfl, _⟩ := e; exact e2.there
  refine ldL_i d.2.1 (ldL_i d.2.2.1 (ldL_i d.2.2.2.1 (ldL_i d.2.2.2.2 ?_)))
  refine slices_Clone_uint32_uint32.c (hd.le l02) (by omega) fun p1 c1 H3 l3 B1 => ⟨(d.le l3).2.2.2.2, (d.le l3).2.2.2.1, (d.le l3).2.2.1, ?_⟩
  have d3 := d.le l3
  have l03 := l02.trans l3
  refine slices_Clone_string_string.c (hm.le l03) (by omega) fun p2 c2 H4 l4 B2 => ⟨(d3.le l4).2.2.2.2, (d3.le l4).2.2.2.1, ?_⟩
  have d4 := d3.le l4
  have l04 := l03.trans l4
  refine slices_Clone_string_string.c (hq.le l04) (by omega) fun p3 c3 H5 l5 B3 => ⟨(d4.le l5).2.2.2.2, ?_⟩
  have d5 := d4.le l5
  have l05 := l04.trans l5
  obtain ⟨zs, hzl, hzs, hze⟩ := HkH.rows hh
  refine slices_Clone_api_Hunk_api_Hunk.c (xs := zs) (hzs.le l05) (by omega) fun p4 c4 H6 l6 B4 => ?_
  have d6 := d5.le l6
  have l06 := l05.trans l6
  have e6 := (((e2.le l3).le l4).le l5).le l6
  have ok6 : Ok H6 ([some ⟨b, 0, none⟩, some ⟨b2, 0, none⟩] ++ [p1] ++ [p2] ++ [p3] ++ [p4]) := (((ok2.snoc B1.fr (bThere B1) l3).snoc B2.fr (bThere B2) l4).snoc B3.fr (bThere B3) l5).snoc B4.fr (bThere B4) l6
  have B1 := (bBack B1 l02).le (l4.trans (l5.trans l6))
  have B2 := (bBack B2 l03).le (l5.trans l6)
  have B3 := (bBack B3 l04).le l6
  have B4 := bBack B4 l05
  have pw6 := ok6.1
  simp only [List.cons_append, List.nil_append, List.pairwise_cons] at pw6
  have a1 : ∀ q ∈ [p1, p2, p3, p4, some ⟨b2, 0, none⟩], Apart (some ⟨b, 0, none⟩) q := fun q hq' => by
    simp only [List.mem_cons, List.not_mem_nil, or_false] at hq'
    refine pw6.1 q ?_
    simp only [List.mem_cons, List.not_mem_nil, or_false]
    rcases hq' with h | h | h | h | h <;> simp [h]
  clear ok2 d d3 d4 d5 e2
  refine put4 d6 fun H7 d7 m7 w7 => ?_
  have lz : Le H H7 := m7.le l06 fun q hq' => by simp at hq'; subst hq'; exact hb
  have B1 := bModA B1 m7 (a1 _ (by simp))
  have B2 := bModA B2 m7 (a1 _ (by simp))
  have B3 := bModA B3 m7 (a1 _ (by simp))
  have B4 := bModA B4 m7 (a1 _ (by simp))
  have nb2 : b2 ∉ [b] := fun h => by
    simp at h; subst h
    exact a1 (some ⟨b2, 0, none⟩) (by simp) b2 0 0 rfl rfl
  have e7 := e6.mod m7 nb2
  have ok7 := ok6.was w7
  clear ok6 d6 e6 l06
  refine ldL_i d7.2.2.2.2 ⟨fun t Hx => ∃ (i : Nat) (ys : List (BL × HD)), t = (i : Nat) ∧ i ≤ hl ∧ Le H Hx ∧ D5 Hx b x.id p1 dl c1 p2 ml c2 p3 ql c3 p4 hl c4 ∧ D5 Hx b2 0 none 0 0 none 0 0 none 0 0 none 0 0 ∧ Buf 1 H Hx p1 dl c1 (x.deps.map fU) ∧ Buf 1 H Hx p2 ml c2 (x.makes.map sv) ∧ Buf 1 H Hx p3 ql c3 (x.drops.map sv) ∧ Buf 4 H Hx p4 hl c4 (ys.flatMap hdC) ∧ ys.length = x.hunks.length ∧
    (∀ j (h1 : j < x.hunks.length) (h2 : j < ys.length), ys[j].1 = x.hunks[j].path ∧ (j < i → OwnH H Hx x.hunks[j] ys[j].2) ∧ (i ≤ j → RdH H x.hunks[j] ys[j].2)) ∧ Ok Hx ([some ⟨b, 0, none⟩, some ⟨b2, 0, none⟩, p1, p2, p3, p4] ++ (ys.take i).flatMap hdP), fun t _ => ((hl : Int) - t).toNat,
    ⟨0, zs, rfl, Nat.zero_le _, lz, d7, e7, B1, B2, B3, B4, hzl, fun j h1 h2 => ⟨(hze j h1 h2).1, fun h => absurd h (Nat.not_lt_zero _), fun _ => (hze j h1 h2).2⟩, by simpa using ok7⟩, ?_⟩
  clear B1 B2 B3 B4 d7 e7 ok7 lz m7 w7 H7
  rintro t Hx ⟨i, ys, rfl, gi, lx, dx, ex, B1, B2, B3, B4, hyl, hy, ok⟩
  refine bcd (fun hlt => ?_) fun hlt => ?_
  · have hi : i < x.hunks.length := by omega
    have hi2 : i < ys.length := by omega
    obtain ⟨bh, rfl⟩ := B4.some_of (by omega)
    obtain ⟨f1, _, f3⟩ := hy i hi hi2
    obtain ⟨s1, s2, s3⟩ := f3 (Nat.le_refl _)
    have hsm := hs.each _ (List.getElem_mem hi)
    have ss1 := hsm.adds
    have ss2 := hsm.edges
    have ss3 := hsm.kills
    have es1 := s1.len
    have es2 := s2.len
    have es3 := s3.len
    refine rsD (B4.sn hdC_len (by decide)) rfl hi2 ?_
    refine D4.mk fun q H7 hq7 dq l7 => ?_
    have d7 := dx.le l7
    have lx7 := lx.trans l7
    refine ldL_i d7.2.2.2.2 (ldL_i d7.2.2.2.2 (ldL_i d7.2.2.2.2 (ldL_i dq.2.1 (ldL_i dq.2.2.1 (ldL_i dq.2.2.2 ?_)))))
    refine slices_Clone_string_string.c (s1.le lx7) (by omega) fun r1 k1 H8 l8 A1 => ⟨(dq.le l8).2.2.2, (dq.le l8).2.2.1, (d7.le l8).2.2.2.2, (d7.le l8).2.2.2.2, (d7.le l8).2.2.2.2, ?_⟩
    have dq := dq.le l8
    have d8 := d7.le l8
    have lx8 := lx7.trans l8
    refine slices_Clone_api_Edge_api_Edge.c (s2.le lx8) (by omega) fun r2 k2 H9 l9 A2 => ⟨(dq.le l9).2.2.2, (d8.le l9).2.2.2.2, (d8.le l9).2.2.2.2, (d8.le l9).2.2.2.2, ?_⟩
    have d9 := d8.le l9
    have lx9 := lx8.trans l9
    refine slices_Clone_api_LineID_api_LineID.c (s3.le lx9) (by omega) fun r3 k3 H10 l10 A3 => ⟨(d9.le l10).2.2.2.2, (d9.le l10).2.2.2.2, (d9.le l10).2.2.2.2, ?_⟩
    have d10 := d9.le l10
    have lx10 := lx9.trans l10
    have lt10 := ((l7.trans l8).trans l9).trans l10
    have B4' := B4.le lt10
    have ok' := ((((ok.snoc (A1.fr.le l7) (bThere A1) (l7.trans l8)).snoc A2.fr (bThere A2) l9).snoc A3.fr (bThere A3) l10))
    have pw := ok.1
    have apb : Apart (some ⟨bh, 0, none⟩) (some ⟨b, 0, none⟩) := ((List.pairwise_cons.1 pw).1 _ (by simp)).symm
    have hbb : b ∉ [bh] := fun h => by
      simp at h; subst h; exact apb b 0 0 rfl rfl
    have apb2 : Apart (some ⟨bh, 0, none⟩) (some ⟨b2, 0, none⟩) := ((List.pairwise_cons.1 (List.pairwise_cons.1 pw).2).1 _ (by simp)).symm
    have hbb2 : b2 ∉ [bh] := fun h => by
      simp at h; subst h; exact apb2 b2 0 0 rfl rfl
    have pw2 := (List.pairwise_cons.1 (List.pairwise_cons.1 pw).2).2
    have ap1 : Apart (some ⟨bh, 0, none⟩) p1 := ((List.pairwise_cons.1 pw2).1 _ (by simp)).symm
    have pw3 := (List.pairwise_cons.1 pw2).2
    have ap2 : Apart (some ⟨bh, 0, none⟩) p2 := ((List.pairwise_cons.1 pw3).1 _ (by simp)).symm
    have pw4 := (List.pairwise_cons.1 pw3).2
    have ap3 : Apart (some ⟨bh, 0, none⟩) p3 := ((List.pairwise_cons.1 pw4).1 _ (by simp)).symm
    have pw5 := (List.pairwise_cons.1 pw4).2
    have apf : ∀ q ∈ (ys.take i).flatMap hdP, Apart (some ⟨bh, 0, none⟩) q := (List.pairwise_cons.1 pw5).1
    have th4 : There Hx (some ⟨bh, 0, none⟩) := bThere B4
    have apr1 : Apart (some ⟨bh, 0, none⟩) r1 := apThere (th4.was l7.was) A1.fr
    have apr2 : Apart (some ⟨bh, 0, none⟩) r2 := apThere (th4.was (l7.trans l8).was) A2.fr
    have apr3 : Apart (some ⟨bh, 0, none⟩) r3 := apThere (th4.was ((l7.trans l8).trans l9).was) A3.fr
    have A1 := (bBack A1 lx7).le (l9.trans l10)
    have A2 := (bBack A2 lx8).le l10
    have A3 := bBack A3 lx9
    have g : ∀ j, j < 4 → (ys.flatMap hdC)[i * 4 + j]? = (hdC ys[i])[j]? := fun j hj => flatMap_get hdC_len ys i hi2 j hj
    have w1 := B4'.rd (g 1 (by decide))
    have w2 := B4'.rd (g 2 (by decide))
    have w3 := B4'.rd (g 3 (by decide))
    rw [Nat.zero_add] at w1 w2 w3
    have gl : (ys.flatMap hdC).length = ys.length * 4 := flatMap_len hdC_len ys
    have C1 := B4'.set (i := i * 4 + 1) (v := .slice r1 ys[i].2.al k1) (by omega) rfl
    have C2 := C1.set (i := i * 4 + 2) (v := .slice r2 ys[i].2.el k2) (by rw [List.length_set, gl]; omega) rfl
    have C3 := C2.set (i := i * 4 + 3) (v := .slice r3 ys[i].2.kl k3) (by rw [List.length_set, List.length_set, gl]; omega) rfl
    have hset := hd_set ys i hi2 ⟨r1, ys[i].2.al, k1, r2, ys[i].2.el, k2, r3, ys[i].2.kl, k3⟩
    simp only at hset
    rw [hset] at C3
    have M1 : Mod [bh] H10 (wr H10 bh (i * 4 + 1) (.slice r1 ys[i].2.al k1)) := Mod.refl.wr (.inl (by simp))
    have M2 := M1.wr (b := bh) (o := i * 4 + 2) (v := .slice r2 ys[i].2.el k2) (.inl (by simp))
    have M3 := M2.wr (b := bh) (o := i * 4 + 3) (v := .slice r3 ys[i].2.kl k3) (.inl (by simp))
    refine idxN i rfl (by omega) (nil ?_)
    simp only [Nat.zero_add]
    refine st w1 ⟨(d10.mod M1 hbb).2.2.2.2, (d10.mod M1 hbb).2.2.2.2, ?_⟩
    refine idxN i rfl (by omega) (nil ?_)
    simp only [Nat.zero_add]
    refine st (by rw [rd_wr_off (by omega)]; exact w2) ⟨(d10.mod M2 hbb).2.2.2.2, ?_⟩
    refine idxN i rfl (by omega) (nil ?_)
    simp only [Nat.zero_add]
    refine st (by rw [rd_wr_off (by omega), rd_wr_off (by omega)]; exact w3) (chk (by omega) ⟨⟨i + 1, ys.set i (ys[i].1, ⟨r1, ys[i].2.al, k1, r2, ys[i].2.el, k2, r3, ys[i].2.kl, k3⟩), by omega, by omega, ?_, d10.mod M3 hbb, (ex.le lt10).mod M3 hbb2, bModA (B1.le lt10) M3 ap1, bModA (B2.le lt10) M3 ap2, bModA (B3.le lt10) M3 ap3, C3, by simp [hyl], fun j h1 h2 => ?_, ?_⟩, by first | omega | (dsimp only; omega)⟩)
    · exact M3.le lx10 fun q hq' => by simp at hq'; subst hq'; exact B4.fr q 0 rfl
    · have hj : j < ys.length := by omega
      by_cases hji : j = i
      · subst hji
        rw [List.getElem_set_self]
        refine ⟨f1, fun _ => ?_, fun h => absurd h (by omega)⟩
        exact ⟨bModA A1 M3 apr1, bModA A2 M3 apr2, bModA A3 M3 apr3⟩
      · rw [List.getElem_set_ne (fun h => hji h.symm)]
        obtain ⟨g1, g2, g3⟩ := hy j h1 hj
        refine ⟨g1, fun hjl => ?_, fun h => g3 (by omega)⟩
        refine ((g2 (by omega)).le lt10).mod (z := ys[j]) M3 fun q hq' => apf q ?_
        exact List.mem_flatMap.2 ⟨ys[j], List.mem_iff_getElem.2 ⟨j, by rw [List.length_take]; omega, by rw [List.getElem_take]⟩, hq'⟩
    · rw [take_set hi2, List.flatMap_append, ← List.append_assoc]
      have : List.flatMap hdP [(ys[i].1, (⟨r1, ys[i].2.al, k1, r2, ys[i].2.el, k2, r3, ys[i].2.kl, k3⟩ : HD))] = [r1] ++ ([r2] ++ [r3]) := rfl
      rw [this, ← List.append_assoc, ← List.append_assoc]
      exact ok'.was ((was_wr.trans was_wr).trans was_wr)
  · have hi : i = hl := by omega
    refine ldI_i dx.1 (ldL_i dx.2.1 (ldL_i dx.2.2.1 (ldL_i dx.2.2.2.1 (ldL_i dx.2.2.2.2 ?_))))
    refine put5 ex fun H7 d7 m7 w7 => ldI_i d7.1 (ldL_i d7.2.1 (ldL_i d7.2.2.1 (ldL_i d7.2.2.2.1 (ldL_i d7.2.2.2.2 ?_))))
    have pw := ok.1
    have pw2 := List.pairwise_cons.1 (List.pairwise_cons.1 pw).2
    rw [List.take_of_length_le (by omega)] at pw2
    have ap : ∀ q ∈ [p1, p2, p3, p4] ++ ys.flatMap hdP, Apart (some ⟨b2, 0, none⟩) q := pw2.1
    have hb2' : H b2 = none := none_of_le l1 hb2
    refine hK p1 c1 p2 c2 p3 c3 p4 c4 ys H7 (m7.le lx fun q hq' => by simp at hq'; subst hq'; exact hb2') ⟨rfl, bModA B1 m7 (ap _ (by simp)), bModA B2 m7 (ap _ (by simp)), bModA B3 m7 (ap _ (by simp)), ⟨hyl, bModA B4 m7 (ap _ (by simp)), fun j h1 h2 => ⟨(hy j h1 h2).1, ((hy j h1 h2).2.1 (by omega)).mod (z := ys[j]) m7 fun q hq' => ap q ?_⟩⟩, pw2.2⟩
    exact List.mem_append_right _ (List.mem_flatMap.2 ⟨ys[j], List.getElem_mem h2, hq'⟩)
end
end Go.Proofs.YtganockeifkecaaGreat
namespace Go.Proofs.YtganockeifkecaaGreat
open Go.V
/-! ### Numbers of patches -/
theorem wrap16 (x : Int) : IntKind.wrap .u16 x = x % 65536 := by simp [IntKind.wrap, IntKind.signed, IntKind.bits]
theorem u32w {e : Int} (h : 0 ≤ e ∧ e < 4294967296) : IntKind.wrap .u32 e = e := wrap_in .u32 (by simp [IntKind.min, IntKind.max, IntKind.signed, IntKind.bits]; omega)
theorem ofInt32 {a : Nat} (ha : a < 4294967296) : (BitVec.ofInt 32 (a : Int)).toNat = a := by
  rw [BitVec.ofInt_natCast, BitVec.toNat_ofNat]; exact Nat.mod_eq_of_lt (by omega)
theorem ior32 {a b : Nat} (ha : a < 4294967296) (hb : b < 4294967296) : ior .u32 (a : Int) (b : Int) = ((a ||| b : Nat) : Int) := by
  have hx : a ||| b < 2 ^ 32 := Nat.or_lt_two_pow (by omega) (by omega)
  show IntKind.u32.wrap ((BitVec.ofInt 32 (a : Int) ||| BitVec.ofInt 32 (b : Int)).toNat : Int) = _
  rw [BitVec.toNat_or, ofInt32 ha, ofInt32 hb, u32w (by omega)]
theorem iand32 {a : Nat} (ha : a < 4294967296) : iand .u32 (a : Int) (65535 : Int) = ((a % 65536 : Nat) : Int) := by
  have e : ((65535 : Nat) : Int) = (65535 : Int) := rfl
  have hm : a &&& 65535 = a % 65536 := Nat.and_two_pow_sub_one_eq_mod a 16
  show IntKind.u32.wrap ((BitVec.ofInt 32 (a : Int) &&& BitVec.ofInt 32 (65535 : Int)).toNat : Int) = _
  rw [← e, BitVec.toNat_and, ofInt32 ha, ofInt32 (by decide), hm, u32w (by omega)]
theorem ishl32 {a : Nat} (h : a < 65536) : ishl .u32 (a : Int) (16 : Int) = ((a * 65536 : Nat) : Int) := by
  show IntKind.u32.wrap ((a : Int) * 2 ^ 16) = _
  have e : (a : Int) * 2 ^ 16 = ((a * 65536 : Nat) : Int) := by omega
  rw [e, u32w (by omega)]
theorem ishr32 {a : Nat} : ishr .u32 (a : Int) (16 : Int) = ((a / 65536 : Nat) : Int) := by
  show (a : Int).fdiv (2 ^ 16) = _
  rw [Int.fdiv_eq_ediv_of_nonneg _ (by decide)]; omega
theorem id_or {a b : Nat} (hb : b < 65536) : a * 65536 ||| b = a * 65536 + b := by
  have := Nat.shiftLeft_add_eq_or_of_lt (i := 16) (b := b) (by omega) a
  rw [Nat.shiftLeft_eq] at this
  exact this.symm
def idN (w s : Int) : Nat := (w % 65536).toNat * 65536 + (s % 65536).toNat
section
variable {H : Hp}
theorem patch_ID.c {w s : Int} {K : Int → Hp → Prop} (hK : K (idN w s : Nat) H) : patch_ID.C w s H K := by
  apply patch_ID.of
  unfold patch_ID.F
  rw [wrap16, wrap16]
  refine ⟨by show (0 : Int) ≤ _ ∧ _ ≤ (4294967295 : Int); omega, by decide, by show (0 : Int) ≤ _ ∧ _ ≤ (4294967295 : Int); omega, ?_⟩
  have e1 : w % 65536 = (((w % 65536).toNat : Nat) : Int) := by omega
  have e2 : s % 65536 = (((s % 65536).toNat : Nat) : Int) := by omega
  rw [e1, e2]
  show K (ior .u32 (ishl .u32 (((w % 65536).toNat : Nat) : Int) (16 : Int)) (((s % 65536).toNat : Nat) : Int)) H
  rw [ishl32 (by omega), ior32 (by omega) (by omega), id_or (by omega)]
  exact hK
end
/-! ### Known patches -/
def xk : Pt := ⟨65537, [], [[97]], [], [⟨[97], [[120, 10], [121]], [⟨⟨65537, 0⟩, ⟨65537, 1⟩⟩], []⟩]⟩
def xb : Pt := ⟨65537, [], [[97]], [], [⟨[97], [[10, 10], [121]], [⟨⟨65537, 0⟩, ⟨65537, 1⟩⟩], []⟩]⟩
def xz : Pt := ⟨0, [], [], [], []⟩
theorem xk_is : isB xk = true := by decide
theorem xb_is : isB xb = false := by decide
theorem xz_is : isB xz = false := by decide
theorem xk_needs : needsL xk = [] := by decide
theorem xk_paths : pathsL xk = [[97]] := by decide
theorem xk_ne : ¬ xk = xb := by decide
theorem path_ok : pathB [97, 47, 98, 46, 99] = true := by decide
theorem path_no : pathB [65] = false := by decide
theorem hkSm_of (h : Hk) (hp : h.path.length ≤ 1000) (ha : h.adds.length ≤ 1000) (he : h.edges.length ≤ 1000) (hk : h.kills.length ≤ 1000) (ht : ∀ s ∈ h.adds, s.length ≤ 1000000) : HkSm h := ⟨by omega, ha, he, hk, ht⟩
theorem xk_sm : PtSm xk := ⟨by decide, by decide, by decide, by decide, by decide, by decide, fun h hh => by
  simp only [xk, List.mem_singleton] at hh; subst hh; exact ⟨by decide, by decide, by decide, by decide, by decide⟩⟩
theorem xb_sm : PtSm xb := ⟨by decide, by decide, by decide, by decide, by decide, by decide, fun h hh => by
  simp only [xb, List.mem_singleton] at hh; subst hh; exact ⟨by decide, by decide, by decide, by decide, by decide⟩⟩
theorem xz_sm : PtSm xz := ⟨by decide, by decide, by decide, by decide, by decide, by decide, fun h hh => by simp [xz] at hh⟩
theorem xz_pt {H : Hp} : PtS H 0 none 0 0 none 0 0 none 0 0 none 0 0 xz := ⟨rfl, Sl.nil, Sl.nil, Sl.nil, rfl, Nat.le_refl _, .inl rfl⟩
end Go.Proofs.YtganockeifkecaaGreat
namespace Go.Proofs.YtganockeifkecaaGreat
open Go.V
/-! ### Few -/
def fewH (h : Hk) : Bool := decide (h.adds.length ≤ 50) && (decide (h.edges.length ≤ 90) && (decide (h.kills.length ≤ 50) && (decide (h.path.length ≤ 40) && h.adds.all fun s => decide (s.length ≤ 100))))
def fewB (x : Pt) : Bool := x.hunks.all fewH && ((x.makes.all fun s => decide (s.length ≤ 40)) && ((x.drops.all fun s => decide (s.length ≤ 40)) && (decide (x.hunks.length ≤ 8) && (decide (x.deps.length ≤ 70) && (decide (x.makes.length ≤ 10) && decide (x.drops.length ≤ 10))))))
theorem fewB_sm {x : Pt} (h : fewB x = true) : PtSm x := by
  simp only [fewB, fewH, Bool.and_eq_true, List.all_eq_true, decide_eq_true_eq] at h
  obtain ⟨h1, h2, h3, h4, h5, h6, h7⟩ := h
  refine ⟨by omega, by omega, by omega, by omega, fun s hs => Nat.le_trans (h2 s hs) (by decide), fun s hs => Nat.le_trans (h3 s hs) (by decide), fun g hg => ?_⟩
  obtain ⟨g1, g2, g3, g4, g5⟩ := h1 g hg
  exact ⟨by omega, by omega, by omega, by omega, fun s hs => Nat.le_trans (g5 s hs) (by decide)⟩
section
variable {H : Hp} {id : Int} {dp mp qp hp : Option Addr} {dl dc ml mc ql qc hl hc : Nat} {x : Pt}
theorem mkB_sz (s : BL) : (mkB s).size = s.length := mkB_size s
theorem centolaw12_few.c {K : Bool → Hp → Prop} (h : PtS H id dp dl dc mp ml mc qp ql qc hp hl hc x) (sl : hl ≤ 9223372036854775807 ∧ ml ≤ 9223372036854775807 ∧ ql ≤ 9223372036854775807) (hK : ∀ H', Le H H' → K (fewB x) H') : centolaw12_few.C id dp dl dc mp ml mc qp ql qc hp hl hc H K := by
  apply centolaw12_few.of
  intro b hb
  have l1 := Le.upd (c := [.int .u32 id, .slice dp dl dc, .slice mp ml mc, .slice qp ql qc, .slice hp hl hc]) hb
  have d := D5.new (H := H) (b := b) (id := id) (dp := dp) (dl := dl) (dc := dc) (mp := mp) (ml := ml) (mc := mc) (qp := qp) (ql := ql) (qc := qc) (hp := hp) (hl := hl) (hc := hc)
  revert l1 d
  generalize upd H b [.int .u32 id, .slice dp dl dc, .slice mp ml mc, .slice qp ql qc, .slice hp hl hc] = H1
  intro l1 d
  obtain ⟨rfl, hd, hm, hq, hh⟩ := h
  have eh := hh.1
  have ed := hd.len
  have em := hm.len
  have eq := hq.len
  have hh1 := HkH_le hh l1
  unfold fewB at hK
  refine ⟨fun t Hx => ∃ i : Nat, t = (i : Nat) ∧ i ≤ hl ∧ Le H1 Hx ∧ (x.hunks.take i).all fewH = true, fun t _ => ((hl : Int) - t).toNat, ⟨0, rfl, Nat.zero_le _, Le.refl _, rfl⟩, ?_⟩
  rintro t Hx ⟨i, rfl, gi, lx, hp1⟩
  have dx := d.le lx
  refine ldL_i dx.2.2.2.2 (bcd (fun hlt => ldL_i dx.2.2.2.2 ?_) fun hlt => ?_)
  · have hi : i < x.hunks.length := by omega
    have bad : ∀ {Hy}, Le H1 Hy → fewH x.hunks[i] = false → K false Hy := fun {Hy} ly hb => by
      have := hK _ (l1.trans ly)
      rw [all_bad hi hb] at this; exact this
    refine rsH2 hh1 lx rfl hi fun ap al ac ep el ec kp kl kc s1 s2 s3 => D4.mk fun q H2 hq2 dq l2 => ?_
    have e1 := s1.len
    have e2 := s2.len
    have e3 := s3.len
    have lx2 := lx.trans l2
    refine ldL_i dq.2.1 (bcd (fun g => bad lx2 ?_) fun g1 => ldL_i dq.2.2.1 (bcd (fun g => bad lx2 ?_) fun g2 => ldL_i dq.2.2.2 (bcd (fun g => bad lx2 ?_) fun g3 => ldS_i dq.1 ?_)))
    · unfold fewH; rw [decide_eq_false (by omega)]; rfl
    · unfold fewH; rw [decide_eq_false (by omega : ¬ x.hunks[i].edges.length ≤ 90)]; simp
    · unfold fewH; rw [decide_eq_false (by omega : ¬ x.hunks[i].kills.length ≤ 50)]; simp
    rw [mkB_sz]
    refine bcd (fun g => bad lx2 ?_) fun g4 => ?_
    · unfold fewH; rw [decide_eq_false (by omega : ¬ x.hunks[i].path.length ≤ 40)]; simp
    unfold centolaw12_few.k1
    refine ⟨fun t Hy => ∃ j : Nat, t = (j : Nat) ∧ j ≤ al ∧ Le H2 Hy ∧ ((x.hunks[i].adds.take j).all fun s => decide (s.length ≤ 100)) = true, fun t _ => ((al : Int) - t).toNat, ⟨0, rfl, Nat.zero_le _, Le.refl _, rfl⟩, ?_⟩
    rintro t Hy ⟨j, rfl, gj, ly, hp2⟩
    have dy := dq.le ly
    refine ldL_i dy.2.1 (bcd (fun hlt => ldL_i dy.2.1 ?_) fun hlt => ?_)
    · have hj : j < x.hunks[i].adds.length := by omega
      refine rsT (s1.le (lx2.trans ly)) rfl hj ?_
      rw [mkB_sz]
      refine bcd (fun g => bad (lx2.trans ly) ?_) fun g => chk (by omega) ⟨⟨j + 1, by omega, by omega, ly, all_next hj hp2 (by rw [decide_eq_true_eq]; omega)⟩, by first | omega | (dsimp only; omega)⟩
      unfold fewH
      rw [all_bad (f := fun s : BL => decide (s.length ≤ 100)) hj (by rw [decide_eq_false_iff_not]; omega)]; simp
    · refine chk (by omega) ⟨⟨i + 1, by omega, by omega, lx2.trans ly, all_next hi hp1 ?_⟩, by first | omega | (dsimp only; omega)⟩
      unfold fewH
      rw [all_end hp2 (by omega), decide_eq_true (by omega), decide_eq_true (by omega), decide_eq_true (by omega), decide_eq_true (by omega)]; rfl
  rw [all_end hp1 (by omega)] at hK
  simp only [Bool.true_and] at hK
  refine ⟨fun t Hx => ∃ i : Nat, t = (i : Nat) ∧ i ≤ ml ∧ Le H1 Hx ∧ ((x.makes.take i).all fun s => decide (s.length ≤ 40)) = true, fun t _ => ((ml : Int) - t).toNat, ⟨0, rfl, Nat.zero_le _, lx, rfl⟩, ?_⟩
  clear dx hlt
  rintro t Hy ⟨j, rfl, gj, ly, hp2⟩
  have dy := d.le ly
  refine ldL_i dy.2.2.1 (bcd (fun hlt => ldL_i dy.2.2.1 ?_) fun hlt => ?_)
  · have hj : j < x.makes.length := by omega
    refine rsT (hm.le (l1.trans ly)) rfl hj ?_
    rw [mkB_sz]
    refine bcd (fun g => ?_) fun g => chk (by omega) ⟨⟨j + 1, by omega, by omega, ly, all_next hj hp2 (by rw [decide_eq_true_eq]; omega)⟩, by first | omega | (dsimp only; omega)⟩
    have := hK _ (l1.trans ly)
    rw [all_bad (f := fun s : BL => decide (s.length ≤ 40)) hj (by rw [decide_eq_false_iff_not]; omega)] at this; exact this
  rw [all_end hp2 (by omega)] at hK
  simp only [Bool.true_and] at hK
  refine ⟨fun t Hx => ∃ i : Nat, t = (i : Nat) ∧ i ≤ ql ∧ Le H1 Hx ∧ ((x.drops.take i).all fun s => decide (s.length ≤ 40)) = true, fun t _ => ((ql : Int) - t).toNat, ⟨0, rfl, Nat.zero_le _, ly, rfl⟩, ?_⟩
  clear dy hlt
  rintro t Hz ⟨k, rfl, gk, lz, hp3⟩
  have dz := d.le lz
  refine ldL_i dz.2.2.2.1 (bcd (fun hlt => ldL_i dz.2.2.2.1 ?_) fun hlt => ?_)
  · have hj : k < x.drops.length := by omega
    refine rsT (hq.le (l1.trans lz)) rfl hj ?_
    rw [mkB_sz]
    refine bcd (fun g => ?_) fun g => chk (by omega) ⟨⟨k + 1, by omega, by omega, lz, all_next hj hp3 (by rw [decide_eq_true_eq]; omega)⟩, by first | omega | (dsimp only; omega)⟩
    have := hK _ (l1.trans lz)
    rw [all_bad (f := fun s : BL => decide (s.length ≤ 40)) hj (by rw [decide_eq_false_iff_not]; omega)] at this; exact this
  rw [all_end hp3 (by omega)] at hK
  simp only [Bool.true_and] at hK
  have hK := hK _ (l1.trans lz)
  refine ldL_i dz.2.2.2.2 (bcd (fun g1 => ldL_i dz.2.1 (bcd (fun g2 => ldL_i dz.2.2.1 (bcd (fun g3 => ldL_i dz.2.2.2.1 ?_) fun g => ?_)) fun g => ?_)) fun g => ?_)
  · rw [decide_eq_true (by omega), decide_eq_true (by omega), decide_eq_true (by omega)] at hK
    simp only [Bool.true_and] at hK
    have : decide (((ql : Nat) : Int) ≤ (10 : Int)) = decide (x.drops.length ≤ 10) := decide_eq_decide.2 (by omega)
    rw [this]; exact hK
  · rw [decide_eq_true (by omega), decide_eq_true (by omega), decide_eq_false (by omega)] at hK; exact hK
  · rw [decide_eq_true (by omega), decide_eq_false (by omega)] at hK; exact hK
  · rw [decide_eq_false (by omega)] at hK; exact hK
end
end Go.Proofs.YtganockeifkecaaGreat
namespace Go.Proofs.YtganockeifkecaaGreat
open Go.V
section
variable {H : Hp} {K : Bool → Hp → Prop}
theorem sl_one {H : Hp} {b : Nat} {s : BL} (h : rd H b 0 = some (sv s)) : Sl sv H (some ⟨b, 0, none⟩) 1 1 [s] := ⟨rfl, Nat.le_refl _, .inr ⟨b, 0, rfl, fun i hi => by
  match i, hi with
  | 0, _ => exact h⟩⟩
theorem sl_two {H : Hp} {b : Nat} {s t : BL} (h : rd H b 0 = some (sv s)) (h2 : rd H b 1 = some (sv t)) : Sl sv H (some ⟨b, 0, none⟩) 2 2 [s, t] := ⟨rfl, Nat.le_refl _, .inr ⟨b, 0, rfl, fun i hi => by
  match i, hi with
  | 0, _ => exact h
  | 1, _ => exact h2⟩⟩
theorem sn_one {H : Hp} {b : Nat} {e : Ed} (h : DE H b e) : Sn 4 edC H (some ⟨b, 0, none⟩) 1 1 [e] := ⟨rfl, Nat.le_refl _, .inr ⟨b, 0, rfl, fun i hi j v hv => by
  match i, hi with
  | 0, _ =>
    match j, hv with
    | 0, hv => simp [edC] at hv; subst hv; exact h.1
    | 1, hv => simp [edC] at hv; subst hv; exact h.2.1
    | 2, hv => simp [edC] at hv; subst hv; exact h.2.2.1
    | 3, hv => simp [edC] at hv; subst hv; exact h.2.2.2
    | j + 4, hv => simp [edC] at hv⟩⟩
theorem centolaw12_known.c (hK : ∀ H', Le H H' → K true H') : centolaw12_known.C H K := by
  apply centolaw12_known.of
  intro b1 hb1 b3 hb3 b5 hb5 b7 hb7
  have l1 := Le.upd (c := [.string (bs [97])]) hb1
  have l3 := Le.upd (c := [.string (bs [120, 10]), .string (bs [121])]) hb3
  have l5 := Le.upd (c := [.int .u32 (65537 : Int), .int .i64 (0 : Int), .int .u32 (65537 : Int), .int .i64 (1 : Int)]) hb5
  have l7 := Le.upd (c := [.string (bs [97]), .slice (some ⟨b3, 0, none⟩) 2 2, .slice (some ⟨b5, 0, none⟩) 1 1, .slice none 0 0]) hb7
  have r1 : rd (upd H b1 [.string (bs [97])]) b1 0 = some (sv [97]) := by rw [rd_upd_self]; rfl
  have r3 : rd (upd (upd H b1 [.string (bs [97])]) b3 [.string (bs [120, 10]), .string (bs [121])]) b3 0 = some (sv [120, 10]) := by rw [rd_upd_self]; rfl
  have r4 : rd (upd (upd H b1 [.string (bs [97])]) b3 [.string (bs [120, 10]), .string (bs [121])]) b3 1 = some (sv [121]) := by rw [rd_upd_self]; rfl
  have r5 := DE.new (H := upd (upd H b1 [.string (bs [97])]) b3 [.string (bs [120, 10]), .string (bs [121])]) (b := b5) (e := ⟨⟨65537, 0⟩, ⟨65537, 1⟩⟩)
  have r7 := D4.new (H := upd (upd (upd H b1 [.string (bs [97])]) b3 [.string (bs [120, 10]), .string (bs [121])]) b5 [.int .u32 (65537 : Int), .int .i64 (0 : Int), .int .u32 (65537 : Int), .int .i64 (1 : Int)]) (b := b7) (f := bs [97]) (ap := some ⟨b3, 0, none⟩) (al := 2) (ac := 2) (ep := some ⟨b5, 0, none⟩) (el := 1) (ec := 1) (kp := none) (kl := 0) (kc := 0)
  have s1 := sl_one (((l3.trans l5).trans l7).rd r1)
  have s3 := sl_two ((l5.trans l7).rd r3) ((l5.trans l7).rd r4)
  have s5 := sn_one (r5.le l7)
  have l17 := ((l1.trans l3).trans l5).trans l7
  revert s1 s3 s5 r7 l17
  generalize upd (upd (upd (upd H b1 [.string (bs [97])]) b3 [.string (bs [120, 10]), .string (bs [121])]) b5 [.int .u32 (65537 : Int), .int .i64 (0 : Int), .int .u32 (65537 : Int), .int .i64 (1 : Int)]) b7 [.string (bs [97]), .slice (some ⟨b3, 0, none⟩) 2 2, .slice (some ⟨b5, 0, none⟩) 1 1, .slice none 0 0] = H7
  intro r7 s1 s3 s5 l17
  refine D5.mk (id := 65537) fun b9 H9 hb9 d l9 => ?_
  have pk : PtS H9 65537 none 0 0 (some ⟨b1, 0, none⟩) 1 1 none 0 0 (some ⟨b7, 0, none⟩) 1 1 xk :=
    ⟨rfl, Sl.nil, s1.le l9, Sl.nil, rfl, Nat.le_refl _, .inr ⟨b7, 0, rfl, fun i hi => by
      match i, hi with
      | 0, _ => exact ⟨_, _, _, _, _, _, _, _, _, l9.rd r7.1, l9.rd r7.2.1, l9.rd r7.2.2.1, l9.rd r7.2.2.2, s3.le l9, s5.le l9, Sn.nil⟩⟩⟩
  refine ldI_i d.1 (ldL_i d.2.1 (ldL_i d.2.2.1 (ldL_i d.2.2.2.1 (ldL_i d.2.2.2.2 ?_))))
  refine patch_Copy.c pk xk_sm fun p1 c1 p2 c2 p3 c3 p4 c4 zs H10 l10 own => ?_
  refine D5.mk fun b56 H11 hb56 dq l11 => ?_
  refine ldL_i dq.2.2.2.2 (bcd (fun h => absurd rfl h) fun _ => ldL_i dq.2.2.2.2 ?_)
  obtain ⟨_, o1, o2, o3, ⟨hz, oB, oE⟩, pw⟩ := own
  obtain ⟨z, rfl⟩ := List.length_eq_one_iff.1 hz
  obtain ⟨hz1, A, E, Q⟩ := oE 0 (by decide) (by simp)
  have hz1 : z.1 = [97] := hz1
  have A : Buf 1 H9 H10 z.2.ap z.2.al z.2.ac [sv [120, 10], sv [121]] := A
  have hal : z.2.al = 2 := by have := A.1; simpa using this
  obtain ⟨ba, ea⟩ := A.some_of (by omega)
  obtain ⟨b4, rfl⟩ := oB.some_of (by decide)
  have rr : rd H10 b4 (0 + 0 * 4 + 1) = some (.slice z.2.ap z.2.al z.2.ac) := oB.rd (i := 1) rfl
  refine idxN 0 rfl (by decide) (nil (ldL_i (l11.rd rr) (bcd (fun h => absurd (by omega) h) fun _ => ?_)))
  unfold centolaw12_known.k1
  refine ldL_i dq.2.2.2.2 (idxN 0 rfl (by decide) (nil (ldL_i (l11.rd rr) ?_)))
  have hta : H10 ba ≠ none := A.there ea
  have hfa : H9 ba = none := A.fr ba 0 ea
  have pw1 := (List.pairwise_cons.1 pw).2
  have pw2 := List.pairwise_cons.1 pw1
  have pw3 := (List.pairwise_cons.1 pw2.2).2
  have pw4 := List.pairwise_cons.1 pw3
  have pw5 := List.pairwise_cons.1 (show [z.2.ap, z.2.ep, z.2.kp].Pairwise Apart from pw4.2)
  have ap2 : Apart (some ⟨ba, 0, none⟩) p2 := by rw [← ea]; exact (pw2.1 _ (by simp [hdP])).symm
  have ap4 : Apart (some ⟨ba, 0, none⟩) (some ⟨b4, 0, none⟩) := by rw [← ea]; exact (pw4.1 _ (by simp [hdP])).symm
  have apE : Apart (some ⟨ba, 0, none⟩) z.2.ep := by rw [← ea]; exact pw5.1 _ (by simp)
  have apQ : Apart (some ⟨ba, 0, none⟩) z.2.kp := by rw [← ea]; exact pw5.1 _ (by simp)
  rw [ea] at A ⊢
  have A := A.le l11
  refine idxN 0 rfl (by omega) (nil (st (A.rd (i := 0) rfl) ?_))
  have A' := A.set (i := 0) (v := .string (bs [10, 10])) (by decide) rfl
  have M : Mod [ba] H11 (wr H11 ba (0 + 0) (.string (bs [10, 10]))) := Mod.refl.wr (.inl (by simp))
  have A' : Buf 1 H9 (wr H11 ba (0 + 0) (.string (bs [10, 10]))) (some ⟨ba, 0, none⟩) z.2.al z.2.ac ([[10, 10], [121]].map sv) := A'
  revert A' M
  generalize wr H11 ba (0 + 0) (.string (bs [10, 10])) = H12
  intro M A'
  have le12 : Le H9 H12 := M.le (l10.trans l11) fun q hq => by simp at hq; subst hq; exact hfa
  have d := d.le le12
  have pk := pk.up le12
  have dq := dq.mod M (fun h => by simp at h; subst h; exact hta hb56)
  have q2 := (bModA (o2.le l11) M ap2).sl
  have qB := (bModA (oB.le l11) M ap4).sn hdC_len (by decide)
  have qE := (bModA (E.le l11) M apE).sn edC_len (by decide)
  have qQ := (bModA (Q.le l11) M apQ).sn lidC_len (by decide)
  have pb : PtS H12 65537 p1 0 c1 p2 1 c2 p3 0 c3 (some ⟨b4, 0, none⟩) 1 c4 xb := ⟨rfl, Sl.nil, q2, Sl.nil, HkH.of (zs := [z]) rfl qB fun j h1 h2 => by
    match j, h1, h2 with
    | 0, _, _ => exact ⟨hz1, by show Sl sv H12 z.2.ap z.2.al z.2.ac [[10, 10], [121]]; rw [ea]; exact A'.sl, qE, qQ⟩⟩
  have l012 := (l17.trans l9).trans le12
  refine ldI_i d.1 (ldL_i d.2.1 (ldL_i d.2.2.1 (ldL_i d.2.2.2.1 (ldL_i d.2.2.2.2 ?_))))
  refine patch_Is.c pk xk_sm fun Ha la => bc_i (fun _ => ?_) fun h => absurd h (by rw [xk_is]; decide)
  have d2 := dq.le la
  refine ldI_i d2.1 (ldL_i d2.2.1 (ldL_i d2.2.2.1 (ldL_i d2.2.2.2.1 (ldL_i d2.2.2.2.2 ?_))))
  refine patch_Is.c (pb.up la) xb_sm fun Hb lb => bcn (fun _ => ?_) fun h => absurd h (by rw [xb_is]; decide)
  refine patch_Is.c xz_pt xz_sm fun Hc lc => bcn (fun _ => ?_) fun h => absurd h (by rw [xz_is]; decide)
  have lz := (la.trans lb).trans lc
  have d3 := d.le lz
  refine ldI_i d3.1 (ldL_i d3.2.1 (ldL_i d3.2.2.1 (ldL_i d3.2.2.2.1 (ldL_i d3.2.2.2.2 ?_))))
  refine ldI_i d3.1 (ldL_i d3.2.1 (ldL_i d3.2.2.1 (ldL_i d3.2.2.2.1 (ldL_i d3.2.2.2.2 ?_))))
  refine patch_Copy.c (pk.up lz) xk_sm fun p1 c1 p2 c2 p3 c3 p4 c4 zs Hd ld own => ?_
  have d4 := d3.le ld
  refine ⟨d4.1, d4.2.1, d4.2.2.1, d4.2.2.2.1, d4.2.2.2.2, ?_⟩
  refine patch_Same.c (pk.up (lz.trans ld)) own.pt xk_sm fun He le => bcd (fun _ => ?_) fun h => absurd rfl h
  have ly := (lz.trans ld).trans le
  have d5 := d.le ly
  have d6 := dq.le ly
  refine ldI_i d5.1 (ldL_i d5.2.1 (ldL_i d5.2.2.1 (ldL_i d5.2.2.2.1 (ldL_i d5.2.2.2.2 ?_))))
  refine ldI_i d6.1 (ldL_i d6.2.1 (ldL_i d6.2.2.1 (ldL_i d6.2.2.2.1 (ldL_i d6.2.2.2.2 ?_))))
  refine patch_Same.c (pk.up ly) (pb.up ly) xk_sm fun Hf lf => bcn (fun _ => ?_) fun h => absurd (of_decide_eq_true h) xk_ne
  have d7 := d5.le lf
  refine ldI_i d7.1 (ldL_i d7.2.1 (ldL_i d7.2.2.1 (ldL_i d7.2.2.2.1 (ldL_i d7.2.2.2.2 ?_))))
  refine patch_Lines.c (pk.up (ly.trans lf)) xk_sm fun Hg lg => bcd (fun _ => ?_) fun h => absurd rfl h
  have d8 := d7.le lg
  refine ldI_i d8.1 (ldL_i d8.2.1 (ldL_i d8.2.2.1 (ldL_i d8.2.2.2.1 (ldL_i d8.2.2.2.2 ?_))))
  refine patch_Needs.c (pk.up ((ly.trans lf).trans lg)) xk_sm fun pn ln cn Hh lh sn _ _ => ?_
  have en := sn.len
  rw [xk_needs] at en
  refine bcd (fun _ => ?_) fun h => absurd (by rw [en]; rfl) h
  have d9 := d8.le lh
  refine ldI_i d9.1 (ldL_i d9.2.1 (ldL_i d9.2.2.1 (ldL_i d9.2.2.2.1 (ldL_i d9.2.2.2.2 ?_))))
  refine patch_Paths.c (pk.up (((ly.trans lf).trans lg).trans lh)) xk_sm fun pn ln cn Hi li sn _ _ => ?_
  have en := sn.len
  rw [xk_paths] at en
  refine bcd (fun _ => ?_) fun h => absurd (by rw [en]; rfl) h
  refine patch_IsPath.c (s := [97, 47, 98, 46, 99]) (by decide) (bc_i (fun _ => ?_) fun h => absurd h (by rw [path_ok]; decide))
  refine patch_IsPath.c (s := [65]) (by decide) (bcn (fun _ => ?_) fun h => absurd h (by rw [path_no]; decide))
  refine patch_ID.c ?_
  exact hK _ (l012.trans ((((ly.trans lf).trans lg).trans lh).trans li))
end
end Go.Proofs.YtganockeifkecaaGreat
namespace Go.Proofs.YtganockeifkecaaGreat
open Go.V
/-! ### Patches that come in -/
abbrev lidE : Enc (Int × Int) := (Enc.int .u32).pair (Enc.int .i64)
abbrev edE : Enc ((Int × Int) × (Int × Int)) := lidE.pair lidE
abbrev hkE : Enc (ByteArray × List ByteArray × List ((Int × Int) × (Int × Int)) × List (Int × Int)) := Enc.str.pair (Enc.str.sl.pair (edE.sl.pair lidE.sl))
abbrev PtX : Type := Int × List Int × List ByteArray × List ByteArray × List (ByteArray × List ByteArray × List ((Int × Int) × (Int × Int)) × List (Int × Int))
abbrev ptE : Enc PtX := (Enc.int .u32).pair ((Enc.int .u32).sl.pair (Enc.str.sl.pair (Enc.str.sl.pair hkE.sl)))
def toLid (x : Int × Int) : Lid := ⟨x.1, x.2⟩
def toEd (x : (Int × Int) × (Int × Int)) : Ed := ⟨toLid x.1, toLid x.2⟩
def toHk (x : ByteArray × List ByteArray × List ((Int × Int) × (Int × Int)) × List (Int × Int)) : Hk := ⟨L x.1, x.2.1.map L, x.2.2.1.map toEd, x.2.2.2.map toLid⟩
def toPt (x : PtX) : Pt := ⟨x.1, x.2.1, x.2.2.1.map L, x.2.2.2.1.map L, x.2.2.2.2.map toHk⟩
theorem lidE_rep {H : Hp} {cs : List Value} {x : Int × Int} (h : lidE.rep H cs x) : cs = lidC (toLid x) := by
  obtain ⟨c1, c2, rfl, ⟨h1, _⟩, ⟨h2, _⟩⟩ := h
  rw [h1, h2]; rfl
theorem edE_rep {H : Hp} {cs : List Value} {x : (Int × Int) × (Int × Int)} (h : edE.rep H cs x) : cs = edC (toEd x) := by
  obtain ⟨c1, c2, rfl, h1, h2⟩ := h
  rw [lidE_rep h1, lidE_rep h2]; rfl
theorem strs_sv {H : Hp} {p : Option Addr} {l c : Nat} {xs : List ByteArray} (h : Enc.str.rows H p l c xs) : Sl sv H p l c (xs.map L) := by
  obtain ⟨e, hc, hh⟩ := h.strs
  refine ⟨by rw [List.length_map]; exact e, hc, hh.imp (fun e => by rw [e]; rfl) fun ⟨b, o, e, hh⟩ => ⟨b, o, e, fun i hi => ?_⟩⟩
  rw [List.length_map] at hi
  rw [List.getElem_map]
  exact hh i hi
theorem hks_hkH {H : Hp} {p : Option Addr} {l c : Nat} {xs : List (ByteArray × List ByteArray × List ((Int × Int) × (Int × Int)) × List (Int × Int))} (h : hkE.rows H p l c xs) : HkH H p l c (xs.map toHk) := by
  refine ⟨by rw [List.length_map]; exact h.1, h.2.1, ?_⟩
  by_cases hn : xs = []
  · left; rw [hn]; rfl
  · right
    have hpos : 0 < xs.length := List.length_pos_iff.2 hn
    obtain ⟨b, o, hp⟩ := h.2.2.2.1 (by have := h.1; have := h.2.1; omega)
    refine ⟨b, o, hp, fun i hi => ?_⟩
    rw [List.length_map] at hi
    obtain ⟨cs, ⟨c1, c2, rfl, ⟨h1, _⟩, ⟨c3, c4, rfl, ⟨ap, al, ac, rfl, h3⟩, ⟨c5, c6, rfl, ⟨ep, el, ec, rfl, h4⟩, ⟨kp, kl, kc, rfl, h5⟩⟩⟩⟩, h6⟩ := h.2.2.2.2 b o hp i hi
    rw [List.getElem_map]
    have h1 : c1 = [.string xs[i].1] := h1
    subst h1
    exact ⟨ap, al, ac, ep, el, ec, kp, kl, kc, h6 0 _ rfl, h6 1 _ rfl, h6 2 _ rfl, h6 3 _ rfl, strs_sv h3, (h4.sn edE_rep).map, (h5.sn lidE_rep).map⟩
theorem ptE_rep {H : Hp} {cs : List Value} {x : PtX} (h : ptE.rep H cs x) :
    ∃ dp dl dc mp ml mc qp ql qc hp hl hc, cs = [.int .u32 x.1, .slice dp dl dc, .slice mp ml mc, .slice qp ql qc, .slice hp hl hc] ∧ PtS H x.1 dp dl dc mp ml mc qp ql qc hp hl hc (toPt x) ∧ (hl ≤ 9223372036854775807 ∧ ml ≤ 9223372036854775807 ∧ ql ≤ 9223372036854775807) := by
  obtain ⟨c1, c2, rfl, ⟨h1, _⟩, ⟨c3, c4, rfl, ⟨dp, dl, dc, rfl, h2⟩, ⟨c5, c6, rfl, ⟨mp, ml, mc, rfl, h3⟩, ⟨c7, c8, rfl, ⟨qp, ql, qc, rfl, h4⟩, ⟨hp, hl, hc, rfl, h5⟩⟩⟩⟩⟩ := h
  have h1 : c1 = [.int .u32 x.1] := h1
  subst h1
  exact ⟨dp, dl, dc, mp, ml, mc, qp, ql, qc, hp, hl, hc, rfl, ⟨rfl, h2.ints, strs_sv h3, strs_sv h4, hks_hkH h5⟩, Nat.le_trans h5.2.1 h5.2.2.1, Nat.le_trans h3.2.1 h3.2.2.1, Nat.le_trans h4.2.1 h4.2.2.1⟩
end Go.Proofs.YtganockeifkecaaGreat
namespace Go.Proofs.YtganockeifkecaaGreat
open Go.V
/-! ### A part of a patch is set -/
section
variable {H : Hp} {b : Nat} {id : Int} {dp mp qp hp : Option Addr} {dl dc ml mc ql qc hl hc : Nat}
theorem put0 (h : D5 H b id dp dl dc mp ml mc qp ql qc hp hl hc) {id' : Int} {F : Hp → Prop} (hF : ∀ H', D5 H' b id' dp dl dc mp ml mc qp ql qc hp hl hc → Mod [b] H H' → Was H H' → F H') : ST H b 0 (.int .u32 id') F :=
  st h.1 (hF _ ⟨rd_wr_self h.1, by rw [rd_wr_off (by decide)]; exact h.2.1, by rw [rd_wr_off (by decide)]; exact h.2.2.1, by rw [rd_wr_off (by decide)]; exact h.2.2.2.1, by rw [rd_wr_off (by decide)]; exact h.2.2.2.2⟩ (Mod.refl.wr (.inl (by simp))) was_wr)
theorem put1 (h : D5 H b id dp dl dc mp ml mc qp ql qc hp hl hc) {p' : Option Addr} {l' c' : Nat} {F : Hp → Prop} (hF : ∀ H', D5 H' b id p' l' c' mp ml mc qp ql qc hp hl hc → Mod [b] H H' → Was H H' → F H') : ST H b 1 (.slice p' l' c') F :=
  st h.2.1 (hF _ ⟨by rw [rd_wr_off (by decide)]; exact h.1, rd_wr_self h.2.1, by rw [rd_wr_off (by decide)]; exact h.2.2.1, by rw [rd_wr_off (by decide)]; exact h.2.2.2.1, by rw [rd_wr_off (by decide)]; exact h.2.2.2.2⟩ (Mod.refl.wr (.inl (by simp))) was_wr)
theorem put2 (h : D5 H b id dp dl dc mp ml mc qp ql qc hp hl hc) {p' : Option Addr} {l' c' : Nat} {F : Hp → Prop} (hF : ∀ H', D5 H' b id dp dl dc p' l' c' qp ql qc hp hl hc → Mod [b] H H' → Was H H' → F H') : ST H b 2 (.slice p' l' c') F :=
  st h.2.2.1 (hF _ ⟨by rw [rd_wr_off (by decide)]; exact h.1, by rw [rd_wr_off (by decide)]; exact h.2.1, rd_wr_self h.2.2.1, by rw [rd_wr_off (by decide)]; exact h.2.2.2.1, by rw [rd_wr_off (by decide)]; exact h.2.2.2.2⟩ (Mod.refl.wr (.inl (by simp))) was_wr)
theorem put3 (h : D5 H b id dp dl dc mp ml mc qp ql qc hp hl hc) {p' : Option Addr} {l' c' : Nat} {F : Hp → Prop} (hF : ∀ H', D5 H' b id dp dl dc mp ml mc p' l' c' hp hl hc → Mod [b] H H' → Was H H' → F H') : ST H b 3 (.slice p' l' c') F :=
  st h.2.2.2.1 (hF _ ⟨by rw [rd_wr_off (by decide)]; exact h.1, by rw [rd_wr_off (by decide)]; exact h.2.1, by rw [rd_wr_off (by decide)]; exact h.2.2.1, rd_wr_self h.2.2.2.1, by rw [rd_wr_off (by decide)]; exact h.2.2.2.2⟩ (Mod.refl.wr (.inl (by simp))) was_wr)
end
theorem centoref12_Has.c {H : Hp} {K : Bool → Hp → Prop} {p : Option Addr} {l c : Nat} {xs : List Int} {v : Int} (h : Sl fU H p l c xs) (hl : l ≤ 1000000000) (hK : K (decide (v ∈ xs)) H) : centoref12_Has.C p l c v H K := by
  apply centoref12_Has.of
  have e := h.len
  refine ⟨fun t Hx => ∃ i : Nat, t = (i : Nat) ∧ i ≤ l ∧ Hx = H ∧ v ∉ xs.take i, fun t _ => ((l : Int) - t).toNat, ⟨0, rfl, Nat.zero_le _, rfl, by simp⟩, ?_⟩
  rintro t Hx ⟨i, rfl, gi, rfl, hn⟩
  refine bcd (fun hlt => ?_) fun hlt => ?_
  · have hi : i < xs.length := by omega
    refine rsU h rfl hi (bcd (fun he => ?_) fun he => chk (by omega) ⟨⟨i + 1, by omega, by omega, by trivial, fun hm => ?_⟩, by first | omega | (dsimp only; omega)⟩)
    · rw [decide_eq_true (by rw [← he]; exact List.getElem_mem hi)] at hK; exact hK
    · rw [List.take_succ_eq_append_getElem hi, List.mem_append] at hm
      rcases hm with hm | hm
      · exact hn hm
      · simp at hm; exact he hm.symm
  · rw [List.take_of_length_le (by omega)] at hn
    rw [decide_eq_false hn] at hK; exact hK
/-! ### What a patch needs is told -/
theorem needsL_mem {x : Pt} {n : Int} (h : n ∈ needsL x) : ¬ n = x.id := by
  have := uniqL_mem.1 h
  have := (List.mem_filter.1 this).2
  simpa using this
theorem needsL_pw (x : Pt) : (needsL x).Pairwise fun a b => Sort.ltInt a b = true := uniqL_pw ltInt_tr fun _ _ => ltInt_anti
theorem isB_deps {x : Pt} (h : isB x = true) : depsB x = true := by
  simp only [isB, Bool.and_eq_true] at h
  exact h.2.2.2.2.1
theorem depsB_needs {x : Pt} (h : depsB x = true) {n : Int} (hn : n ∈ needsL x) : n ∈ x.deps := by
  simp only [depsB, Bool.and_eq_true, List.all_eq_true, decide_eq_true_eq] at h
  exact h.2.2.2.2 n hn
theorem isB_not {x : Pt} {n : Int} (hn : n ∈ needsL x) (hd : n ∉ x.deps) : isB x = false := by
  cases e : isB x with
  | false => rfl
  | true => exact absurd (depsB_needs (isB_deps e) hn) hd
end Go.Proofs.YtganockeifkecaaGreat
namespace Go.Proofs.YtganockeifkecaaGreat
open Go.V
/-! ### A patch spoilt -/
theorem isB_id {x : Pt} (h : isB x = true) : ¬ x.id = 0 := by
  simp only [isB, Bool.and_eq_true, decide_eq_true_eq] at h
  exact h.1
theorem isB_of {x : Pt} (h : isB x = true) : pathsB x.makes = true ∧ pathsB x.drops = true ∧ depsB x = true ∧ hunksB x.id 0 [] x.hunks = true := by
  simp only [isB, Bool.and_eq_true] at h
  exact ⟨h.2.2.1, h.2.2.2.1, h.2.2.2.2.1, h.2.2.2.2.2.2⟩
theorem hunksB_each {id : Int} : ∀ {hs : List Hk} {fr : Int} {last : BL}, hunksB id fr last hs = true → ∀ h ∈ hs, ∃ fr', hunkB id fr' h = true
  | [], _, _, _, h, hh => by simp at hh
  | g :: r, fr, last, e, h, hh => by
    simp only [hunksB, Bool.and_eq_true] at e
    rcases List.mem_cons.1 hh with rfl | hh
    · exact ⟨fr, e.2.2.1⟩
    · exact hunksB_each e.2.2.2 h hh
theorem notB {x : Pt} (h : isB x = true → False) : isB x = false := by
  cases e : isB x with
  | false => rfl
  | true => exact (h e).elim
theorem spoil0 (x : Pt) : isB { x with id := 0 } = false := notB fun h => isB_id h rfl
theorem spoil1 (x : Pt) : isB { x with deps := x.deps ++ [x.id] } = false := notB fun h => by
  have := (isB_of h).2.2.1
  simp only [depsB, Bool.and_eq_true, Bool.not_eq_true', decide_eq_false_iff_not] at this
  exact this.2.2.2.1 (by simp)
theorem spoil2 (x : Pt) : isB { x with makes := x.makes ++ [[66]] } = false := notB fun h => by
  have := (isB_of h).1
  simp only [pathsB, Bool.and_eq_true, List.all_eq_true] at this
  have := this.2.2 [66] (by simp)
  revert this; decide
theorem spoil3 (x : Pt) : isB { x with drops := x.drops ++ [[97], [97]] } = false := notB fun h => by
  have := (isB_of h).2.1
  simp only [pathsB, Bool.and_eq_true] at this
  have h2 := this.2.1
  rw [rsB_pw ltStr_tr] at h2
  have h3 := (List.pairwise_append.1 h2).2.1
  have h4 := (List.pairwise_cons.1 h3).1 [97] (by simp)
  rw [ltStr_irr] at h4; cases h4
theorem spoilH (x : Pt) {hs : List Hk} {h : Hk} (hm : h ∈ hs) (hb : ∀ fr, hunkB x.id fr h = false) : isB { x with hunks := hs } = false := notB fun e => by
  obtain ⟨fr, h2⟩ := hunksB_each (isB_of e).2.2.2 h hm
  rw [hb fr] at h2; cases h2
theorem spoil4 (id fr : Int) (h : Hk) : hunkB id fr { h with adds := h.adds ++ [[]] } = false := by
  have : (h.adds ++ [[]]).all lineB = false := List.all_eq_false.2 ⟨[], by simp, by decide⟩
  unfold hunkB
  simp only [this, Bool.false_and, Bool.and_false]
theorem spoil5 (id fr : Int) (h : Hk) (y : Lid) : hunkB id fr { h with edges := h.edges ++ [⟨y, y⟩] } = false := by
  have : ((h.edges ++ [(⟨y, y⟩ : Ed)]).all fun e => namedB id fr h.adds.length e.a && (namedB id fr h.adds.length e.b && decide (¬ e.a = e.b))) = false := List.all_eq_false.2 ⟨⟨y, y⟩, by simp, by simp⟩
  unfold hunkB
  simp only [this, Bool.false_and, Bool.and_false]
theorem len_ne {α : Type} {a b : List α} (h : a.length ≠ b.length) : ¬ a = b := fun e => h (by rw [e])
end Go.Proofs.YtganockeifkecaaGreat
namespace Go.Proofs.YtganockeifkecaaGreat
open Go.V
/-! ### The document's patches: rows, paths -/
theorem bcnd {p : Prop} [Decidable p] {A B : Prop} (h : ¬p → A) (h' : p → B) : bc (!decide p) A B := bcn (fun e => h (of_decide_eq_false e)) fun e => h' (of_decide_eq_true e)
/-- A row is gone through, as far as all are right. -/
theorem allRow {α : Type} {f : α → Bool} {xs : List α} {i : Nat} (hi : i < xs.length) (h : f xs[i] = false) : xs.all f = false := all_bad hi h
def risB (xs : List Int) : Bool := rsB Sort.ltInt xs && !decide ((0 : Int) ∈ xs)
def pathsR (xs : List BL) : Bool := rsB Sort.ltStr xs && xs.all pathB
section
variable {H : Hp} {K : Bool → Hp → Prop} {p q : Option Addr} {l cc m dd : Nat}
theorem centoref12_IsPath.c {s : BL} (hs : s.length ≤ 1000000000) (hK : K (pathB s) H) : centoref12_IsPath.C (mkB s) H K := by
  apply centoref12_IsPath.of
  have hz : (mkB s).size = s.length := mkB_size s
  refine ⟨fun t Hx => ∃ i : Nat, t = (i : Nat) ∧ i ≤ s.length ∧ Hx = H ∧ (s.take i).all pathC = true, fun t _ => ((s.length : Int) - t).toNat, ⟨0, rfl, Nat.zero_le _, rfl, rfl⟩, ?_⟩
  rintro t Hx ⟨i, rfl, gi, rfl, hp⟩
  refine bcd (fun hlt => ?_) fun hlt => ?_
  · have hi : i < s.length := by omega
    refine idxN i rfl (by omega) ?_
    rw [getD_Lp (by omega)]
    have ec : (L (mkB s))[i]'(by rw [← L_size]; omega) = s[i] := rfl
    simp only [ec]
    have next : pathC s[i] = true → CHK .i64 (((i : Nat) : Int) + (1 : Int)) fun x => (∃ i : Nat, x = (i : Nat) ∧ i ≤ s.length ∧ True ∧ (s.take i).all pathC = true) ∧ ((s.length : Int) - x).toNat < ((s.length : Int) - ((i : Nat) : Int)).toNat := fun h =>
      chk (by omega) ⟨⟨i + 1, by omega, by omega, trivial, by rw [List.take_succ_eq_append_getElem hi, List.all_append, hp]; simp [h]⟩, by omega⟩
    have bad : pathC s[i] = false → K false Hx := fun h => by
      have : s.all pathC = false := List.all_eq_false.2 ⟨_, List.getElem_mem hi, by rw [h]; decide⟩
      unfold pathB at hK
      rw [this, Bool.and_false] at hK; exact hK
    unfold pathC at next bad
    repeat' first | refine bcnd (fun _ => ?_) fun _ => ?_ | refine bcd (fun _ => ?_) fun _ => ?_
    all_goals first | exact next (by rw [decide_eq_true_eq]; omega) | exact bad (by rw [decide_eq_false_iff_not]; omega)
  · rw [List.take_of_length_le (by omega)] at hp
    unfold pathB at hK
    rw [hp, Bool.and_true] at hK
    refine bcd (fun h1 => ?_) fun h1 => ?_
    · have hne : s ≠ [] := fun e => by
        have : s.length = 0 := by rw [e]; rfl
        omega
      rw [decide_eq_true hne, Bool.true_and] at hK
      have : decide ((((mkB s).size : Nat) : Int) ≤ (20 : Int)) = decide (s.length ≤ 20) := decide_eq_decide.2 (by omega)
      rw [this]; exact hK
    · have he : s = [] := List.length_eq_zero_iff.1 (by omega)
      rw [decide_eq_false (fun h => h he)] at hK; exact hK
theorem centoref12_Rising.c {xs : List Int} (h : Sl fU H p l cc xs) (hl : l ≤ 1000000000) (hK : K (risB xs) H) : centoref12_Rising.C p l cc H K := by
  apply centoref12_Rising.of
  have e := h.len
  unfold risB at hK
  refine ⟨fun t Hx => ∃ i : Nat, t = (i : Nat) ∧ i ≤ l ∧ Hx = H ∧ rsB Sort.ltInt (xs.take i) = true ∧ (0 : Int) ∉ xs.take i, fun t _ => ((l : Int) - t).toNat, ⟨0, rfl, Nat.zero_le _, rfl, rfl, by simp⟩, ?_⟩
  rintro t Hx ⟨i, rfl, gi, rfl, hr, h0⟩
  refine bcd (fun hlt => ?_) fun hlt => ?_
  · have hi : i < xs.length := by omega
    refine rsU h rfl hi (bcd (fun hz => ?_) fun hz => ?_)
    · rw [decide_eq_true (by rw [← hz]; exact List.getElem_mem hi), Bool.not_true, Bool.and_false] at hK; exact hK
    have n0 : (0 : Int) ∉ xs.take (i + 1) := fun hm => by
      rw [List.take_succ_eq_append_getElem hi, List.mem_append] at hm
      rcases hm with hm | hm
      · exact h0 hm
      · simp at hm; exact hz hm.symm
    refine bcd (fun hp => ?_) fun hp => ?_
    · refine rsU h rfl hi (chk (by omega) (rsU h (k := i - 1) (by omega) (by omega) (bcd (fun hle => ?_) fun hgt => ?_)))
      · rw [rsB_bad hi (by omega) (by unfold Sort.ltInt; rw [decide_eq_false_iff_not]; omega)] at hK; exact hK
      · exact chk (by omega) ⟨⟨i + 1, by omega, by omega, by trivial, rsB_next hi (by omega) hr (by unfold Sort.ltInt; rw [decide_eq_true_eq]; omega), n0⟩, by first | omega | (dsimp only; omega)⟩
    · exact chk (by omega) ⟨⟨i + 1, by omega, by omega, by trivial, rsB_one (by rw [List.length_take]; omega), n0⟩, by first | omega | (dsimp only; omega)⟩
  · rw [List.take_of_length_le (by omega)] at hr h0
    rw [hr, decide_eq_false h0] at hK; exact hK
theorem le_str (x y : BL) : (Op.bytesLess (mkB x).toList (mkB y).toList || decide (mkB x = mkB y)) = !Sort.ltStr y x := by rw [← ltStr_gt, Bool.not_not]
theorem centoref12_paths.c {xs : List BL} (h : Sl sv H p l cc xs) (hl : l ≤ 1000000000) (ht : ∀ s ∈ xs, s.length ≤ 1000000000) (hK : K (pathsR xs) H) : centoref12_paths.C p l cc H K := by
  apply centoref12_paths.of
  have e := h.len
  unfold pathsR at hK
  refine ⟨fun t Hx => ∃ i : Nat, t = (i : Nat) ∧ i ≤ l ∧ Hx = H ∧ rsB Sort.ltStr (xs.take i) = true ∧ (xs.take i).all pathB = true, fun t _ => ((l : Int) - t).toNat, ⟨0, rfl, Nat.zero_le _, rfl, rfl, rfl⟩, ?_⟩
  rintro t Hx ⟨i, rfl, gi, rfl, hr, h0⟩
  refine bcd (fun hlt => ?_) fun hlt => ?_
  · have hi : i < xs.length := by omega
    refine rsT h rfl hi (centoref12_IsPath.c (ht _ (List.getElem_mem hi)) (bcn (fun hz => ?_) fun hz => ?_))
    · rw [all_bad hi hz, Bool.and_false] at hK; exact hK
    have n0 := all_next hi h0 hz
    refine bcd (fun hp => ?_) fun hp => ?_
    · refine rsT h rfl hi (chk (by omega) (rsT h (k := i - 1) (by omega) (by omega) ?_))
      rw [le_str]
      refine bcn (fun hle => ?_) fun hgt => ?_
      · rw [rsB_bad hi (by omega) hle] at hK; exact hK
      · exact chk (by omega) ⟨⟨i + 1, by omega, by omega, by trivial, rsB_next hi (by omega) hr hgt, n0⟩, by first | omega | (dsimp only; omega)⟩
    · exact chk (by omega) ⟨⟨i + 1, by omega, by omega, by trivial, rsB_one (by rw [List.length_take]; omega), n0⟩, by first | omega | (dsimp only; omega)⟩
  · rw [List.take_of_length_le (by omega)] at hr h0
    rw [hr, h0] at hK; exact hK
theorem centoref12_In.c {xs : List BL} {v : BL} (h : Sl sv H p l cc xs) (hl : l ≤ 1000000000) (hK : K (decide (v ∈ xs)) H) : centoref12_In.C p l cc (mkB v) H K := by
  apply centoref12_In.of
  have e := h.len
  refine ⟨fun t Hx => ∃ i : Nat, t = (i : Nat) ∧ i ≤ l ∧ Hx = H ∧ v ∉ xs.take i, fun t _ => ((l : Int) - t).toNat, ⟨0, rfl, Nat.zero_le _, rfl, by simp⟩, ?_⟩
  rintro t Hx ⟨i, rfl, gi, rfl, hn⟩
  refine bcd (fun hlt => ?_) fun hlt => ?_
  · have hi : i < xs.length := by omega
    refine rsT h rfl hi (bcd (fun he => ?_) fun he => chk (by omega) ⟨⟨i + 1, by omega, by omega, by trivial, fun hm => ?_⟩, by first | omega | (dsimp only; omega)⟩)
    · have he := mkB_eq he
      rw [decide_eq_true (by rw [← he]; exact List.getElem_mem hi)] at hK; exact hK
    · rw [List.take_succ_eq_append_getElem hi, List.mem_append] at hm
      rcases hm with hm | hm
      · exact hn hm
      · simp at hm; exact he (by rw [hm])
  · rw [List.take_of_length_le (by omega)] at hn
    rw [decide_eq_false hn] at hK; exact hK
theorem take_ne {α : Type} {xs ys : List α} {i : Nat} (hi : i < xs.length) (hj : i < ys.length) (h : ¬ xs[i] = ys[i]) : ¬ xs = ys := fun e => by subst e; exact h rfl
theorem take_next {α : Type} {xs ys : List α} {i : Nat} (hi : i < xs.length) (hj : i < ys.length) (h : xs[i] = ys[i]) (ht : xs.take i = ys.take i) : xs.take (i + 1) = ys.take (i + 1) := by
  rw [List.take_succ_eq_append_getElem hi, List.take_succ_eq_append_getElem hj, ht, h]
theorem centoref12_SameIDs.c {xs ys : List Int} (h : Sl fU H p l cc xs) (h2 : Sl fU H q m dd ys) (hl : l ≤ 1000000000) (hK : K (decide (xs = ys)) H) : centoref12_SameIDs.C p l cc q m dd H K := by
  apply centoref12_SameIDs.of
  have e1 := h.len
  have e2 := h2.len
  refine bcd (fun hn => ?_) fun hn => ?_
  · rw [decide_eq_false (fun e => hn (by rw [e1, e2, e]))] at hK; exact hK
  refine ⟨fun t Hx => ∃ i : Nat, t = (i : Nat) ∧ i ≤ l ∧ Hx = H ∧ xs.take i = ys.take i, fun t _ => ((l : Int) - t).toNat, ⟨0, rfl, Nat.zero_le _, rfl, rfl⟩, ?_⟩
  rintro t Hx ⟨i, rfl, gi, rfl, ht⟩
  refine bcd (fun hlt => ?_) fun hlt => ?_
  · have hi : i < xs.length := by omega
    have hj : i < ys.length := by omega
    refine rsU h rfl hi (rsU h2 rfl hj (bcd (fun he => ?_) fun he => ?_))
    · rw [decide_eq_false (take_ne hi hj he)] at hK; exact hK
    · exact chk (by omega) ⟨⟨i + 1, by omega, by omega, by trivial, take_next hi hj (Classical.not_not.1 he) ht⟩, by first | omega | (dsimp only; omega)⟩
  · rw [List.take_of_length_le (by omega), List.take_of_length_le (by omega)] at ht
    rw [decide_eq_true ht] at hK; exact hK
theorem centoref12_sameTexts.c {xs ys : List BL} (h : Sl sv H p l cc xs) (h2 : Sl sv H q m dd ys) (hl : l ≤ 1000000000) (hK : K (decide (xs = ys)) H) : centoref12_sameTexts.C p l cc q m dd H K := by
  apply centoref12_sameTexts.of
  have e1 := h.len
  have e2 := h2.len
  refine bcd (fun hn => ?_) fun hn => ?_
  · rw [decide_eq_false (fun e => hn (by rw [e1, e2, e]))] at hK; exact hK
  refine ⟨fun t Hx => ∃ i : Nat, t = (i : Nat) ∧ i ≤ l ∧ Hx = H ∧ xs.take i = ys.take i, fun t _ => ((l : Int) - t).toNat, ⟨0, rfl, Nat.zero_le _, rfl, rfl⟩, ?_⟩
  rintro t Hx ⟨i, rfl, gi, rfl, ht⟩
  refine bcd (fun hlt => ?_) fun hlt => ?_
  · have hi : i < xs.length := by omega
    have hj : i < ys.length := by omega
    refine rsT h rfl hi (rsT h2 rfl hj (bcdT (fun he => ?_) fun he => ?_))
    · rw [decide_eq_false (take_ne hi hj he)] at hK; exact hK
    · exact chk (by omega) ⟨⟨i + 1, by omega, by omega, by trivial, take_next hi hj he ht⟩, by first | omega | (dsimp only; omega)⟩
  · rw [List.take_of_length_le (by omega), List.take_of_length_le (by omega)] at ht
    rw [decide_eq_true ht] at hK; exact hK
theorem centolaw12_texts.c {xs ys : List BL} (h : Sl sv H p l cc xs) (h2 : Sl sv H q m dd ys) (hl : l ≤ 1000000000) (hK : K (decide (xs = ys)) H) : centolaw12_texts.C p l cc q m dd H K := by
  apply centolaw12_texts.of
  have e1 := h.len
  have e2 := h2.len
  refine bcd (fun hn => ?_) fun hn => ?_
  · rw [decide_eq_false (fun e => hn (by rw [e1, e2, e]))] at hK; exact hK
  refine ⟨fun t Hx => ∃ i : Nat, t = (i : Nat) ∧ i ≤ l ∧ Hx = H ∧ xs.take i = ys.take i, fun t _ => ((l : Int) - t).toNat, ⟨0, rfl, Nat.zero_le _, rfl, rfl⟩, ?_⟩
  rintro t Hx ⟨i, rfl, gi, rfl, ht⟩
  refine bcd (fun hlt => ?_) fun hlt => ?_
  · have hi : i < xs.length := by omega
    have hj : i < ys.length := by omega
    refine rsT h rfl hi (rsT h2 rfl hj (bcdT (fun he => ?_) fun he => ?_))
    · rw [decide_eq_false (take_ne hi hj he)] at hK; exact hK
    · exact chk (by omega) ⟨⟨i + 1, by omega, by omega, by trivial, take_next hi hj he ht⟩, by first | omega | (dsimp only; omega)⟩
  · rw [List.take_of_length_le (by omega), List.take_of_length_le (by omega)] at ht
    rw [decide_eq_true ht] at hK; exact hK
theorem centoref12_Less.c {x y : Lid} (hK : ∀ H', Le H H' → K (lidLt x y) H') : centoref12_Less.C x.p x.n y.p y.n H K := by
  apply centoref12_Less.of
  intro b hb b2 hb2
  have l1 := Le.upd (c := [.int .u32 x.p, .int .i64 x.n]) hb
  have l2 := Le.upd (c := [.int .u32 y.p, .int .i64 y.n]) hb2
  have d1 := (DL.new (H := H) (b := b) (x := x)).le l2
  have d2 := DL.new (H := upd H b [.int .u32 x.p, .int .i64 x.n]) (b := b2) (x := y)
  have hK := hK _ (l1.trans l2)
  unfold lidLt at hK
  refine ldI_i d1.1 (ldI_i d2.1 (bcd (fun h => ?_) fun h => ldI_i d1.1 (ldI_i d2.1 (bcd (fun h2 => ldI_i d1.2 (ldI_i d2.2 ?_)) fun h2 => ?_))))
  · rw [decide_eq_true h] at hK; exact hK
  · rw [decide_eq_false h, decide_eq_true h2] at hK; exact hK
  · rw [decide_eq_false h, decide_eq_false h2] at hK; exact hK
theorem centoref12_named.c {x : Lid} {id a n : Int} (hK : ∀ H', Le H H' → K (namedB id a n x) H') : centoref12_named.C x.p x.n id a (a + n) H K := by
  apply centoref12_named.of
  intro b hb
  have l1 := Le.upd (c := [.int .u32 x.p, .int .i64 x.n]) hb
  have d1 := DL.new (H := H) (b := b) (x := x)
  have hK := hK _ l1
  unfold namedB at hK
  refine ldI_i d1.2 (bcd (fun h1 => ldI_i d1.2 (bcd (fun h2 => ldI_i d1.1 (bcd (fun h3 => ?_) fun h3 => ldI_i d1.2 (bcd (fun h4 => ldI_i d1.2 ?_) fun h4 => ?_))) fun h2 => ?_)) fun h1 => ?_)
  · rw [decide_eq_true h1, decide_eq_true h2, decide_eq_true h3] at hK; exact hK
  · rw [decide_eq_true h1, decide_eq_true h2, decide_eq_false h3, decide_eq_true h4] at hK; exact hK
  · rw [decide_eq_true h1, decide_eq_true h2, decide_eq_false h3, decide_eq_false h4] at hK; exact hK
  · rw [decide_eq_true h1, decide_eq_false h2] at hK; exact hK
  · rw [decide_eq_false h1] at hK; exact hK
end
end Go.Proofs.YtganockeifkecaaGreat
namespace Go.Proofs.YtganockeifkecaaGreat
open Go.V
/-! ### The document's rows that rise -/
theorem cutWhile {α : Type} {f : α → Bool} : ∀ {xs : List α} {i : Nat}, (∀ y ∈ xs.take i, f y = true) → (xs.length ≤ i ∨ ∃ h : i < xs.length, f xs[i] = false) → xs.takeWhile f = xs.take i ∧ xs.dropWhile f = xs.drop i
  | [], i, _, _ => by simp
  | x :: xs, 0, _, h => by
    rcases h with h | ⟨_, h⟩
    · simp at h
    · have h : f x = false := h
      simp [List.takeWhile_cons, List.dropWhile_cons, h]
  | x :: xs, i + 1, hp, h => by
    have hx : f x = true := hp x (by simp)
    have ih := cutWhile (xs := xs) (i := i) (fun y hy => hp y (by simp [hy])) (by
      rcases h with h | ⟨h1, h2⟩
      · exact .inl (by simpa using h)
      · exact .inr ⟨by simpa using h1, by simpa using h2⟩)
    simp [List.takeWhile_cons, List.dropWhile_cons, hx, ih.1, ih.2]
theorem all_cell {α : Type} {f : α → Value} (hf : ∀ x, isCell (f x) = true) (ys : List α) : (ys.map f).all isCell = true := List.all_eq_true.2 fun v hv => by
  obtain ⟨x, _, rfl⟩ := List.mem_map.1 hv
  exact hf x
section
variable {H : Hp} {p : Option Addr} {l cc : Nat}
theorem centoref12_Put.c {xs : List Int} {v : Int} {K : Option Addr → Nat → Nat → Hp → Prop} (h : Sl fU H p l cc xs) (hl : l ≤ 10000000) (hK : ∀ p' l' c' H', Le H H' → Sl fU H' p' l' c' (putL Sort.ltInt xs v) → K p' l' c' H') : centoref12_Put.C p l cc v H K := by
  apply centoref12_Put.of
  have e := h.len
  have hc := h.2.1
  refine centoref12_Has.c h (by omega) (bcd (fun hm => ?_) fun hm => ?_)
  · have : putL Sort.ltInt xs v = xs := by unfold putL; rw [if_pos hm]
    exact hK p l cc H (Le.refl _) (by rw [this]; exact h)
  have cont : ∀ i : Nat, i ≤ l → xs.takeWhile (fun y => Sort.ltInt y v) = xs.take i → xs.dropWhile (fun y => Sort.ltInt y v) = xs.drop i → BND none (some ((i : Nat) : Int)) l cc fun j24 k25 => APP H te_uint32 none 0 0 (.slice (movA p j24 1 cc) (k25 - j24) (cc - j24)) fun xp26 xl27 xc28 Hx29 => NEW Hx29 ([.int .u32 v]) fun bq30 Hx31 => APP Hx31 te_uint32 xp26 xl27 xc28 (.slice (some ⟨bq30, 0, none⟩) 1 1) fun xp32 xl33 xc34 Hx35 => BND (some ((i : Nat) : Int)) none l cc fun j36 k37 => APP Hx35 te_uint32 xp32 xl33 xc34 (.slice (movA p j36 1 cc) (k37 - j36) (cc - j36)) fun xp38 xl39 xc40 Hx41 => K xp38 xl39 xc40 Hx41 := fun i hi e1 e2 => by
    refine bnd01 i rfl (by omega) ?_
    have hL := h.take (k := i) (by omega)
    refine (Buf.none (s := 1) (A := H) (H := H)).appN (n := i - 0) (new := (xs.take i).map fU) rfl (by decide) rfl (by decide) (by rw [List.length_map, List.length_take]; omega) (all_cell (fun _ => rfl) _) (by simp [te_uint32]; omega) (Le.refl H) (fun G hG => sl_src hL G hG) fun p1 c1 H1 hB1 l1 _ => ?_
    refine hB1.app1 l1 (te := te_uint32) (new := [.int .u32 v]) rfl (by decide) rfl (by decide) rfl rfl (by simp [te_uint32]; omega) fun p2 c2 H2 hB2 l2 _ => ?_
    refine bnd10 i rfl (by omega) ?_
    have hR := (h.le l2).slice (j := i) (k := l) (by omega) (by omega)
    refine hB2.appN (n := l - i) (new := ((xs.take l).drop i).map fU) rfl (by decide) rfl (by decide) (by rw [List.length_map, List.length_drop, List.length_take]; omega) (all_cell (fun _ => rfl) _) (by simp [te_uint32]; omega) l2 (fun G hG => sl_src hR G hG) fun p3 c3 H3 hB3 l3 _ => ?_
    refine hK p3 _ c3 H3 l3 (Buf.sl (c := c3) (A := H) ?_)
    have : putL Sort.ltInt xs v = xs.take i ++ v :: xs.drop i := by unfold putL; rw [if_neg hm, e1, e2]
    rw [this]
    have e3 : (xs.take l).drop i = xs.drop i := by rw [List.take_of_length_le (by omega)]
    rw [e3] at hB3
    have e4 : (xs.take i ++ v :: xs.drop i).map fU = [] ++ (xs.take i).map fU ++ [.int .u32 v] ++ (xs.drop i).map fU := by simp [fU]
    rw [e4]; exact hB3
  refine ⟨fun t Hx => ∃ i : Nat, t = (i : Nat) ∧ i ≤ l ∧ Hx = H ∧ ∀ y ∈ xs.take i, Sort.ltInt y v = true, fun t _ => ((l : Int) - t).toNat, ⟨0, rfl, Nat.zero_le _, rfl, by simp⟩, ?_⟩
  rintro t Hx ⟨i, rfl, gi, rfl, hp⟩
  refine bcd (fun hlt => ?_) fun hlt => ?_
  · have hi : i < xs.length := by omega
    refine rsU h rfl hi ?_
    show bc (Sort.ltInt xs[i] v) _ _
    refine bc_i (fun hb => ?_) fun hb => ?_
    · refine chk (by omega) ⟨⟨i + 1, by omega, by omega, by trivial, fun y hy => ?_⟩, by first | omega | (dsimp only; omega)⟩
      rw [List.take_succ_eq_append_getElem hi, List.mem_append] at hy
      rcases hy with hy | hy
      · exact hp y hy
      · simp at hy; subst hy; exact hb
    · obtain ⟨e1, e2⟩ := cutWhile hp (.inr ⟨hi, hb⟩)
      exact cont i gi e1 e2
  · obtain ⟨e1, e2⟩ := cutWhile (i := i) hp (.inl (by omega))
    exact cont i gi e1 e2
theorem centoref12_PutText.c {xs : List BL} {v : BL} {K : Option Addr → Nat → Nat → Hp → Prop} (h : Sl sv H p l cc xs) (hl : l ≤ 10000000) (hK : ∀ p' l' c' H', Le H H' → Sl sv H' p' l' c' (putL Sort.ltStr xs v) → K p' l' c' H') : centoref12_PutText.C p l cc (mkB v) H K := by
  apply centoref12_PutText.of
  have e := h.len
  have hc := h.2.1
  refine centoref12_In.c h (by omega) (bcd (fun hm => ?_) fun hm => ?_)
  · have : putL Sort.ltStr xs v = xs := by unfold putL; rw [if_pos hm]
    exact hK p l cc H (Le.refl _) (by rw [this]; exact h)
  have cont : ∀ i : Nat, i ≤ l → xs.takeWhile (fun y => Sort.ltStr y v) = xs.take i → xs.dropWhile (fun y => Sort.ltStr y v) = xs.drop i → BND none (some ((i : Nat) : Int)) l cc fun j24 k25 => APP H te_string none 0 0 (.slice (movA p j24 1 cc) (k25 - j24) (cc - j24)) fun xp26 xl27 xc28 Hx29 => NEW Hx29 ([.string (mkB v)]) fun bq30 Hx31 => APP Hx31 te_string xp26 xl27 xc28 (.slice (some ⟨bq30, 0, none⟩) 1 1) fun xp32 xl33 xc34 Hx35 => BND (some ((i : Nat) : Int)) none l cc fun j36 k37 => APP Hx35 te_string xp32 xl33 xc34 (.slice (movA p j36 1 cc) (k37 - j36) (cc - j36)) fun xp38 xl39 xc40 Hx41 => K xp38 xl39 xc40 Hx41 := fun i hi e1 e2 => by
    refine bnd01 i rfl (by omega) ?_
    have hL := h.take (k := i) (by omega)
    refine (Buf.none (s := 1) (A := H) (H := H)).appN (n := i - 0) (new := (xs.take i).map sv) rfl (by decide) rfl (by decide) (by rw [List.length_map, List.length_take]; omega) (all_cell (fun _ => rfl) _) (by simp [te_string]; omega) (Le.refl H) (fun G hG => sl_src hL G hG) fun p1 c1 H1 hB1 l1 _ => ?_
    refine hB1.app1 l1 (te := te_string) (new := [.string (mkB v)]) rfl (by decide) rfl (by decide) rfl rfl (by simp [te_string]; omega) fun p2 c2 H2 hB2 l2 _ => ?_
    refine bnd10 i rfl (by omega) ?_
    have hR := (h.le l2).slice (j := i) (k := l) (by omega) (by omega)
    refine hB2.appN (n := l - i) (new := ((xs.take l).drop i).map sv) rfl (by decide) rfl (by decide) (by rw [List.length_map, List.length_drop, List.length_take]; omega) (all_cell (fun _ => rfl) _) (by simp [te_string]; omega) l2 (fun G hG => sl_src hR G hG) fun p3 c3 H3 hB3 l3 _ => ?_
    refine hK p3 _ c3 H3 l3 (Buf.sl (c := c3) (A := H) ?_)
    have : putL Sort.ltStr xs v = xs.take i ++ v :: xs.drop i := by unfold putL; rw [if_neg hm, e1, e2]
    rw [this]
    have e3 : (xs.take l).drop i = xs.drop i := by rw [List.take_of_length_le (by omega)]
    rw [e3] at hB3
    have e4 : (xs.take i ++ v :: xs.drop i).map sv = [] ++ (xs.take i).map sv ++ [.string (mkB v)] ++ (xs.drop i).map sv := by simp [sv]
    rw [e4]; exact hB3
  refine ⟨fun t Hx => ∃ i : Nat, t = (i : Nat) ∧ i ≤ l ∧ Hx = H ∧ ∀ y ∈ xs.take i, Sort.ltStr y v = true, fun t _ => ((l : Int) - t).toNat, ⟨0, rfl, Nat.zero_le _, rfl, by simp⟩, ?_⟩
  rintro t Hx ⟨i, rfl, gi, rfl, hp⟩
  refine bcd (fun hlt => ?_) fun hlt => ?_
  · have hi : i < xs.length := by omega
    refine rsT h rfl hi ?_
    rw [mkB_list, mkB_list, bytesLess_iff]
    show bc (Sort.ltStr xs[i] v) _ _
    refine bc_i (fun hb => ?_) fun hb => ?_
    · refine chk (by omega) ⟨⟨i + 1, by omega, by omega, by trivial, fun y hy => ?_⟩, by first | omega | (dsimp only; omega)⟩
      rw [List.take_succ_eq_append_getElem hi, List.mem_append] at hy
      rcases hy with hy | hy
      · exact hp y hy
      · simp at hy; subst hy; exact hb
    · obtain ⟨e1, e2⟩ := cutWhile hp (.inr ⟨hi, hb⟩)
      exact cont i gi e1 e2
  · obtain ⟨e1, e2⟩ := cutWhile (i := i) hp (.inl (by omega))
    exact cont i gi e1 e2
end
end Go.Proofs.YtganockeifkecaaGreat
namespace Go.Proofs.YtganockeifkecaaGreat
open Go.V
/-! ### The document: are hunks, patches the same; lines, paths, needs -/
section
variable {H Hx : Hp} {p : Option Addr} {l c : Nat} {hs : List Hk}
theorem rsHp (h : HkH H p l c hs) (le : Le H Hx) {k : Nat} {e : Int} (he : e = (k : Int)) (hk : k < hs.length) {F : ByteArray → Prop} (hF : F (mkB hs[k].path)) : IDX e l fun k => NIL p fun b o => ldS (rd Hx b (o + (k * 4))) F := by
  have hl := h.1
  rcases h.2.2 with h0 | ⟨b, o, rfl, hh⟩
  · subst h0; simp at hk
  · obtain ⟨ap, al, ac, ep, el, ec, kp, kl, kc, h1, h2, h3, h4, h5, h6, h7⟩ := hh k hk
    exact idxN k he (by omega) (nil (ldS_i (le.rd h1) hF))
theorem rsHa (h : HkH H p l c hs) (le : Le H Hx) {k : Nat} {e : Int} (he : e = (k : Int)) (hk : k < hs.length) {F : Option Addr → Nat → Nat → Prop} (hF : ∀ ap al ac, Sl sv H ap al ac hs[k].adds → F ap al ac) : IDX e l fun k => NIL p fun b o => ldL (rd Hx b ((o + (k * 4)) + 1)) F := by
  have hl := h.1
  rcases h.2.2 with h0 | ⟨b, o, rfl, hh⟩
  · subst h0; simp at hk
  · obtain ⟨ap, al, ac, ep, el, ec, kp, kl, kc, h1, h2, h3, h4, h5, h6, h7⟩ := hh k hk
    exact idxN k he (by omega) (nil (ldL_i (le.rd h2) (hF _ _ _ h5)))
end
section
variable {H : Hp}
theorem centoref12_SameHunk.c {K : Bool → Hp → Prop} {g h : Hk} {ap ep kp ap2 ep2 kp2 : Option Addr} {al ac el ec kl kc al2 ac2 el2 ec2 kl2 kc2 : Nat} (ha : Sl sv H ap al ac g.adds) (he : Sn 4 edC H ep el ec g.edges) (hk : Sn 2 lidC H kp kl kc g.kills)
    (ha2 : Sl sv H ap2 al2 ac2 h.adds) (he2 : Sn 4 edC H ep2 el2 ec2 h.edges) (hk2 : Sn 2 lidC H kp2 kl2 kc2 h.kills) (hsm : HkSm g) (hK : ∀ H', Le H H' → K (decide (g = h)) H') :
    centoref12_SameHunk.C (mkB g.path) ap al ac ep el ec kp kl kc (mkB h.path) ap2 al2 ac2 ep2 el2 ec2 kp2 kl2 kc2 H K := by
  apply centoref12_SameHunk.of
  have e1 := ha.len
  have e2 := he.len
  have e3 := hk.len
  have e4 := he2.len
  have e5 := hk2.len
  have s1 := hsm.adds
  have s2 := hsm.edges
  have s3 := hsm.kills
  intro b hb b2 hb2
  have l1 := Le.upd (c := [.string (mkB g.path), .slice ap al ac, .slice ep el ec, .slice kp kl kc]) hb
  have l2 := Le.upd (c := [.string (mkB h.path), .slice ap2 al2 ac2, .slice ep2 el2 ec2, .slice kp2 kl2 kc2]) hb2
  have d1 := (D4.new (H := H) (b := b) (f := mkB g.path) (ap := ap) (al := al) (ac := ac) (ep := ep) (el := el) (ec := ec) (kp := kp) (kl := kl) (kc := kc)).le l2
  have d2 := D4.new (H := upd H b [.string (mkB g.path), .slice ap al ac, .slice ep el ec, .slice kp kl kc]) (b := b2) (f := mkB h.path) (ap := ap2) (al := al2) (ac := ac2) (ep := ep2) (el := el2) (ec := ec2) (kp := kp2) (kl := kl2) (kc := kc2)
  have l0 := l1.trans l2
  revert l0 d1 d2
  generalize upd (upd H b [.string (mkB g.path), .slice ap al ac, .slice ep el ec, .slice kp kl kc]) b2 [.string (mkB h.path), .slice ap2 al2 ac2, .slice ep2 el2 ec2, .slice kp2 kl2 kc2] = H2
  intro d1 d2 l0
  have hK := hK _ l0
  have no : (g = h → False) → K false H2 := fun hn => by rw [decide_eq_false hn] at hK; exact hK
  refine ldS_i d1.1 (ldS_i d2.1 (bcdT (fun hp => no fun e => hp (by rw [e])) fun hp => ?_))
  refine ldL_i d1.2.1 (ldL_i d2.2.1 (centoref12_sameTexts.c (ha.le l0) (ha2.le l0) (by omega) (bcnd (fun hq => no fun e => hq (by rw [e])) fun hq => ?_)))
  refine ldL_i d1.2.2.1 (ldL_i d2.2.2.1 (bcd (fun hn => no fun e => hn (by rw [e2, e4, e])) fun hn => ldL_i d1.2.2.2 (ldL_i d2.2.2.2 (bcd (fun hn2 => no fun e => hn2 (by rw [e3, e5, e])) fun hn2 => ?_))))
  unfold centoref12_SameHunk.k1
  refine ⟨fun t Hx => ∃ i : Nat, t = (i : Nat) ∧ i ≤ el ∧ Hx = H2 ∧ g.edges.take i = h.edges.take i, fun t _ => ((el : Int) - t).toNat, ⟨0, rfl, Nat.zero_le _, rfl, rfl⟩, ?_⟩
  rintro t Hx ⟨i, rfl, gi, hx, ht⟩
  refine ldL_i (by rw [hx]; exact d1.2.2.1) (bcd (fun hlt => ldL_i (by rw [hx]; exact d1.2.2.1) ?_) fun hlt => ?_)
  · subst hx
    have hi : i < g.edges.length := by omega
    have hj : i < h.edges.length := by omega
    refine rsE (he.le l0) rfl hi (ldL_i d2.2.2.1 (rsE (he2.le l0) rfl hj (neE (fun hne => no fun e => take_ne hi hj hne (by rw [e])) fun heq => ?_)))
    exact chk (by omega) ⟨⟨i + 1, by omega, by omega, by trivial, take_next hi hj heq ht⟩, by first | omega | (dsimp only; omega)⟩
  subst hx
  rw [List.take_of_length_le (by omega), List.take_of_length_le (by omega)] at ht
  clear hlt gi i
  refine ⟨fun t Hy => ∃ i : Nat, t = (i : Nat) ∧ i ≤ kl ∧ Hy = Hx ∧ g.kills.take i = h.kills.take i, fun t _ => ((kl : Int) - t).toNat, ⟨0, rfl, Nat.zero_le _, rfl, rfl⟩, ?_⟩
  rintro t Hy ⟨i, rfl, gi, hx, hu⟩
  refine ldL_i (by rw [hx]; exact d1.2.2.2) (bcd (fun hlt => ldL_i (by rw [hx]; exact d1.2.2.2) ?_) fun hlt => ?_)
  · subst hx
    have hi : i < g.kills.length := by omega
    have hj : i < h.kills.length := by omega
    refine rsL (hk.le l0) rfl hi (ldL_i d2.2.2.2 (rsL (hk2.le l0) rfl hj (neL (fun hne => no fun e => take_ne hi hj hne (by rw [e])) fun heq => ?_)))
    exact chk (by omega) ⟨⟨i + 1, by omega, by omega, by trivial, take_next hi hj heq hu⟩, by first | omega | (dsimp only; omega)⟩
  subst hx
  rw [List.take_of_length_le (by omega), List.take_of_length_le (by omega)] at hu
  have : g = h := by cases g; cases h; simp_all
  rw [decide_eq_true this] at hK; exact hK
theorem centoref12_Same.c {K : Bool → Hp → Prop} {x y : Pt} {id id2 : Int} {dp mp qp hp dp2 mp2 qp2 hp2 : Option Addr} {dl dc ml mc ql qc hl hc dl2 dc2 ml2 mc2 ql2 qc2 hl2 hc2 : Nat} (h : PtS H id dp dl dc mp ml mc qp ql qc hp hl hc x) (h2 : PtS H id2 dp2 dl2 dc2 mp2 ml2 mc2 qp2 ql2 qc2 hp2 hl2 hc2 y) (hs : PtSm x) (hK : ∀ H', Le H H' → K (decide (x = y)) H') :
    centoref12_Same.C id dp dl dc mp ml mc qp ql qc hp hl hc id2 dp2 dl2 dc2 mp2 ml2 mc2 qp2 ql2 qc2 hp2 hl2 hc2 H K := by
  apply centoref12_Same.of
  intro b hb b2 hb2
  have l1 := Le.upd (c := [.int .u32 id, .slice dp dl dc, .slice mp ml mc, .slice qp ql qc, .slice hp hl hc]) hb
  have l2 := Le.upd (c := [.int .u32 id2, .slice dp2 dl2 dc2, .slice mp2 ml2 mc2, .slice qp2 ql2 qc2, .slice hp2 hl2 hc2]) hb2
  have d1 := (D5.new (H := H) (b := b) (id := id) (dp := dp) (dl := dl) (dc := dc) (mp := mp) (ml := ml) (mc := mc) (qp := qp) (ql := ql) (qc := qc) (hp := hp) (hl := hl) (hc := hc)).le l2
  have d2 := D5.new (H := upd H b [.int .u32 id, .slice dp dl dc, .slice mp ml mc, .slice qp ql qc, .slice hp hl hc]) (b := b2) (id := id2) (dp := dp2) (dl := dl2) (dc := dc2) (mp := mp2) (ml := ml2) (mc := mc2) (qp := qp2) (ql := ql2) (qc := qc2) (hp := hp2) (hl := hl2) (hc := hc2)
  have l0 := l1.trans l2
  revert l0 d1 d2
  generalize upd (upd H b [.int .u32 id, .slice dp dl dc, .slice mp ml mc, .slice qp ql qc, .slice hp hl hc]) b2 [.int .u32 id2, .slice dp2 dl2 dc2, .slice mp2 ml2 mc2, .slice qp2 ql2 qc2, .slice hp2 hl2 hc2] = H2
  intro d1 d2 l0
  obtain ⟨rfl, hd, hm, hq, hh⟩ := h
  obtain ⟨rfl, hd2, hm2, hq2, hh2⟩ := h2
  have e1 := hd.len
  have e2 := hm.len
  have e3 := hq.len
  have e4 := hh.1
  have e5 := hh2.1
  have s1 := hs.deps
  have s2 := hs.makes
  have s3 := hs.drops
  have s4 := hs.hunks
  have no : ∀ {Hx}, Le H2 Hx → (x = y → False) → K false Hx := fun lx hn => by have := hK _ (l0.trans lx); rw [decide_eq_false hn] at this; exact this
  have l2 := Le.refl H2
  refine ldI_i d1.1 (ldI_i d2.1 (bcd (fun j0 => no l2 fun e => j0 (by rw [e])) fun j0 => ?_))
  refine ldL_i d1.2.1 (ldL_i d2.2.1 (centoref12_SameIDs.c (hd.le l0) (hd2.le l0) (by omega) (bcnd (fun j1 => no l2 fun e => j1 (by rw [e])) fun j1 => ?_)))
  refine ldL_i d1.2.2.1 (ldL_i d2.2.2.1 (centoref12_sameTexts.c (hm.le l0) (hm2.le l0) (by omega) (bcnd (fun j2 => no l2 fun e => j2 (by rw [e])) fun j2 => ?_)))
  refine ldL_i d1.2.2.2.1 (ldL_i d2.2.2.2.1 (centoref12_sameTexts.c (hq.le l0) (hq2.le l0) (by omega) (bcnd (fun j3 => no l2 fun e => j3 (by rw [e])) fun j3 => ?_)))
  refine ldL_i d1.2.2.2.2 (ldL_i d2.2.2.2.2 (bcd (fun j4 => no l2 fun e => j4 (by rw [e4, e5, e])) fun j4 => ?_))
  unfold centoref12_Same.k1
  refine ⟨fun t Hx => ∃ i : Nat, t = (i : Nat) ∧ i ≤ hl ∧ Le H2 Hx ∧ x.hunks.take i = y.hunks.take i, fun t _ => ((hl : Int) - t).toNat, ⟨0, rfl, Nat.zero_le _, l2, rfl⟩, ?_⟩
  rintro t Hx ⟨i, rfl, gi, lx, ht⟩
  have dx := d1.le lx
  have dy := d2.le lx
  refine ldL_i dx.2.2.2.2 (bcd (fun hlt => ldL_i dx.2.2.2.2 ?_) fun hlt => ?_)
  · have hi : i < x.hunks.length := by omega
    have hj : i < y.hunks.length := by omega
    refine rsH2 (HkH_le hh l0) lx rfl hi fun ap al ac ep el ec kp kl kc t1 t2 t3 => ldL_i dy.2.2.2.2 (rsH2 (HkH_le hh2 l0) lx rfl hj fun ap2 al2 ac2 ep2 el2 ec2 kp2 kl2 kc2 u1 u2 u3 => ?_)
    refine centoref12_SameHunk.c (t1.le lx) (t2.le lx) (t3.le lx) (u1.le lx) (u2.le lx) (u3.le lx) (hs.each _ (List.getElem_mem hi)) fun H3 l3 => bcnd (fun hne => no (lx.trans l3) fun e => take_ne hi hj hne (by rw [e])) fun heq => ?_
    exact chk (by omega) ⟨⟨i + 1, by omega, by omega, lx.trans l3, take_next hi hj heq ht⟩, by first | omega | (dsimp only; omega)⟩
  · rw [List.take_of_length_le (by omega), List.take_of_length_le (by omega)] at ht
    have j0 := Classical.not_not.1 j0
    have : x = y := by cases x; cases y; simp_all
    have := hK _ (l0.trans lx)
    rw [decide_eq_true ‹x = y›] at this; exact this
end
section
variable {H : Hp} {id : Int} {dp mp qp hp : Option Addr} {dl dc ml mc ql qc hl hc : Nat} {x : Pt}
theorem centoref12_Lines.c {K : Int → Hp → Prop} (h : PtS H id dp dl dc mp ml mc qp ql qc hp hl hc x) (hs : PtSm x) (hK : ∀ H', Le H H' → K (linesN x.hunks : Nat) H') : centoref12_Lines.C id dp dl dc mp ml mc qp ql qc hp hl hc H K := by
  apply centoref12_Lines.of
  intro b hb
  have l1 := Le.upd (c := [.int .u32 id, .slice dp dl dc, .slice mp ml mc, .slice qp ql qc, .slice hp hl hc]) hb
  have d := D5.new (H := H) (b := b) (id := id) (dp := dp) (dl := dl) (dc := dc) (mp := mp) (ml := ml) (mc := mc) (qp := qp) (ql := ql) (qc := qc) (hp := hp) (hl := hl) (hc := hc)
  revert l1 d
  generalize upd H b [.int .u32 id, .slice dp dl dc, .slice mp ml mc, .slice qp ql qc, .slice hp hl hc] = H1
  intro l1 d
  obtain ⟨rfl, hd, hm, hq, hh⟩ := h
  have eh := hh.1
  have hsh := hs.hunks
  have hh1 := HkH_le hh l1
  have hK := hK _ l1
  refine ⟨fun n t Hx => ∃ i : Nat, t = (i : Nat) ∧ i ≤ hl ∧ Hx = H1 ∧ n = (linesN (x.hunks.take i) : Nat) ∧ linesN (x.hunks.take i) ≤ i * 1000, fun _ t _ => ((hl : Int) - t).toNat, ⟨0, rfl, Nat.zero_le _, rfl, rfl, Nat.le_refl _⟩, ?_⟩
  rintro n t Hx ⟨i, rfl, gi, hx, rfl, hb⟩
  refine ldL_i (by rw [hx]; exact d.2.2.2.2) (bcd (fun hlt => ldL_i (by rw [hx]; exact d.2.2.2.2) ?_) fun hlt => ?_)
  · have hi : i < x.hunks.length := by omega
    refine rsHa hh1 (by rw [hx]; exact Le.refl _) rfl hi fun ap al ac s1 => ?_
    have es := s1.len
    have hsm := (hs.each _ (List.getElem_mem hi)).adds
    have hn : linesN (x.hunks.take (i + 1)) = linesN (x.hunks.take i) + al := by unfold linesN; rw [map_snoc hi, List.sum_append]; simp [es]
    refine chk (by omega) (chk (by omega) ⟨⟨i + 1, by omega, by omega, hx, by omega, by omega⟩, by first | omega | (dsimp only; omega)⟩)
  · rw [hx, List.take_of_length_le (by omega)]
    exact hK
end
end Go.Proofs.YtganockeifkecaaGreat
namespace Go.Proofs.YtganockeifkecaaGreat
open Go.V
/-! ### The document: what a patch needs, its paths -/
theorem putL_len {α : Type} [DecidableEq α] {lt : α → α → Bool} {l : List α} {x : α} : (putL lt l x).length ≤ l.length + 1 := by
  unfold putL
  split
  · omega
  · have := congrArg List.length (List.takeWhile_append_dropWhile (p := fun y => lt y x) (l := l))
    rw [List.length_append] at this
    rw [List.length_append, List.length_cons]; omega
theorem uniqL_len {α : Type} [DecidableEq α] {lt : α → α → Bool} {zs : List α} : (uniqL lt zs).length ≤ zs.length := by
  have : ∀ (zs l : List α), (zs.foldl (putL lt) l).length ≤ l.length + zs.length := fun zs => by
    induction zs with
    | nil => intro l; simp
    | cons z zs ih =>
      intro l
      rw [List.foldl_cons, List.length_cons]
      have h1 := ih (putL lt l z)
      have h2 := putL_len (lt := lt) (l := l) (x := z)
      omega
  have h := this zs []
  unfold uniqL
  simpa using h
theorem filter_uniq {α : Type} [DecidableEq α] {lt : α → α → Bool} (hi : ∀ x, lt x x = false) (ht : ∀ x y z, lt x y = true → lt y z = true → lt x z = true) (ha : ∀ x y, lt x y = false → lt y x = false → x = y) (f : α → Bool) (zs : List α) : (uniqL lt zs).filter f = uniqL lt (zs.filter f) :=
  sorted_lt_mem hi ha ht ((uniqL_pw ht ha).filter f) (uniqL_pw ht ha) fun x => by rw [List.mem_filter, uniqL_mem, uniqL_mem, List.mem_filter]
theorem uniqL_snoc2 {α : Type} [DecidableEq α] {lt : α → α → Bool} {zs : List α} {x y : α} : uniqL lt (zs ++ [x, y]) = putL lt (putL lt (uniqL lt zs) x) y := by
  have : zs ++ [x, y] = (zs ++ [x]) ++ [y] := by simp
  rw [this, uniqL_snoc, uniqL_snoc]
section
variable {H : Hp} {id : Int} {dp mp qp hp : Option Addr} {dl dc ml mc ql qc hl hc : Nat} {x : Pt}
theorem centoref12_Needs.c {K : Option Addr → Nat → Nat → Hp → Prop} (h : PtS H id dp dl dc mp ml mc qp ql qc hp hl hc x) (hs : PtSm x) (hK : ∀ p l c H', Le H H' → Sl fU H' p l c (needsL x) → l ≤ 10000000 → K p l c H') : centoref12_Needs.C id dp dl dc mp ml mc qp ql qc hp hl hc H K := by
  apply centoref12_Needs.of
  intro b hb
  have l1 := Le.upd (c := [.int .u32 id, .slice dp dl dc, .slice mp ml mc, .slice qp ql qc, .slice hp hl hc]) hb
  have d := D5.new (H := H) (b := b) (id := id) (dp := dp) (dl := dl) (dc := dc) (mp := mp) (ml := ml) (mc := mc) (qp := qp) (ql := ql) (qc := qc) (hp := hp) (hl := hl) (hc := hc)
  revert l1 d
  generalize upd H b [.int .u32 id, .slice dp dl dc, .slice mp ml mc, .slice qp ql qc, .slice hp hl hc] = H1
  intro l1 d
  obtain ⟨rfl, hd, hm, hq, hh⟩ := h
  have eh := hh.1
  have hsh := hs.hunks
  have hh1 := HkH_le hh l1
  refine ⟨fun p l c t Hx => ∃ i : Nat, t = (i : Nat) ∧ i ≤ hl ∧ Le H1 Hx ∧ Sl fU Hx p l c (uniqL Sort.ltInt ((x.hunks.take i).flatMap hkNames)), fun _ _ _ t _ => ((hl : Int) - t).toNat, ⟨0, rfl, Nat.zero_le _, Le.refl _, Sl.nil⟩, ?_⟩
  rintro p l c t Hx ⟨i, rfl, gi, lx, hS⟩
  have dx := d.le lx
  refine ldL_i dx.2.2.2.2 (bcd (fun hlt => ldL_i dx.2.2.2.2 ?_) fun hlt => ?_)
  · have hi : i < x.hunks.length := by omega
    have hsm := hs.each _ (List.getElem_mem hi)
    have z1 := hsm.edges
    have z2 := hsm.kills
    have nb := ptNames_take hs i
    refine rsH2 hh1 lx rfl hi fun ap al ac ep el ec kp kl kc s1 s2 s3 => D4.mk fun q H2 hq dq l2 => ?_
    have y2 := s2.len
    have y3 := s3.len
    have lx2 := lx.trans l2
    refine ⟨fun p l c t Hy => ∃ k : Nat, t = (k : Nat) ∧ k ≤ el ∧ Le H2 Hy ∧ Sl fU Hy p l c (uniqL Sort.ltInt ((x.hunks.take i).flatMap hkNames ++ (x.hunks[i].edges.take k).flatMap edN)), fun _ _ _ t _ => ((el : Int) - t).toNat, ⟨0, rfl, Nat.zero_le _, Le.refl _, by simpa using hS.le l2⟩, ?_⟩
    rintro p2 n2 c2 t Hy ⟨k, rfl, gk, ly, hS2⟩
    have dy := dq.le ly
    refine ldL_i dy.2.2.1 (bcd (fun hlt2 => ldL_i dy.2.2.1 ?_) fun hlt2 => ?_)
    · have hk : k < x.hunks[i].edges.length := by omega
      obtain ⟨be, oe, rfl, hr⟩ := s2.at hk
      have r0 := hr k hk 0 _ rfl
      have r2 := hr k hk 2 _ rfl
      have L := lx2.trans ly
      have b1 := hS2.len
      have b2 := uniqL_len (lt := Sort.ltInt) (zs := (x.hunks.take i).flatMap hkNames ++ (x.hunks[i].edges.take k).flatMap edN)
      have b3 : ((x.hunks[i].edges.take k).flatMap edN).length ≤ (x.hunks[i].edges.take k).length * 2 := flatMap_lenLe fun e _ => by simp [edN]
      rw [List.length_take] at b3
      rw [List.length_append] at b2
      refine idxN k rfl (by omega) (nil (ldI_i (L.rd r0) (ldL_i dy.2.2.1 (idxN k rfl (by omega) (nil (ldI_i (L.rd r2) ?_))))))
      refine centoref12_Put.c hS2 (by omega) fun p3 n3 c3 H3 le3 hS3 => ⟨(L.trans le3).rd r2, (dy.le le3).2.2.1, centoref12_Put.c hS3 ?_ fun p4 n4 c4 H4 le4 hS4 => chk (by omega) ⟨⟨k + 1, by omega, by omega, ly.trans (le3.trans le4), ?_⟩, by first | omega | (dsimp only; omega)⟩⟩
      · have b4 := hS3.len
        have b5 := putL_len (lt := Sort.ltInt) (l := uniqL Sort.ltInt ((x.hunks.take i).flatMap hkNames ++ (x.hunks[i].edges.take k).flatMap edN)) (x := x.hunks[i].edges[k].a.p)
        omega
      · rw [flatMap_snoc hk, ← List.append_assoc]
        show Sl fU H4 p4 n4 c4 (uniqL Sort.ltInt (_ ++ [_, _]))
        rw [uniqL_snoc2]; exact hS4
    rw [show x.hunks[i].edges.take k = x.hunks[i].edges from List.take_of_length_le (by omega)] at hS2
    have e3 : ((x.hunks[i].edges).flatMap edN).length ≤ (x.hunks[i].edges).length * 2 := flatMap_lenLe fun e _ => by simp [edN]
    clear hlt2 gk dy
    refine ⟨fun p l c t Hz => ∃ k : Nat, t = (k : Nat) ∧ k ≤ kl ∧ Le Hy Hz ∧ Sl fU Hz p l c (uniqL Sort.ltInt ((x.hunks.take i).flatMap hkNames ++ (x.hunks[i].edges.flatMap edN ++ (x.hunks[i].kills.take k).map (·.p)))), fun _ _ _ t _ => ((kl : Int) - t).toNat, ⟨0, rfl, Nat.zero_le _, Le.refl _, by simpa using hS2⟩, ?_⟩
    rintro p3 n3 c3 t Hz ⟨k2, rfl, gk2, lz, hS3⟩
    have ly := ly.trans lz
    have dz := dq.le ly
    refine ldL_i dz.2.2.2 (bcd (fun hlt2 => ldL_i dz.2.2.2 ?_) fun hlt2 => ?_)
    · have hk : k2 < x.hunks[i].kills.length := by omega
      obtain ⟨be, oe, rfl, hr⟩ := s3.at hk
      have r0 := hr k2 hk 0 _ rfl
      have L := lx2.trans ly
      have b1 := hS3.len
      have b2 := uniqL_len (lt := Sort.ltInt) (zs := (x.hunks.take i).flatMap hkNames ++ (x.hunks[i].edges.flatMap edN ++ (x.hunks[i].kills.take k2).map (·.p)))
      rw [List.length_append, List.length_append, List.length_map, List.length_take] at b2
      refine idxN k2 rfl (by omega) (nil (ldI_i (L.rd r0) ?_))
      refine centoref12_Put.c hS3 (by omega) fun p4 n4 c4 H4 le4 hS4 => chk (by omega) ⟨⟨k2 + 1, by omega, by omega, lz.trans le4, ?_⟩, by first | omega | (dsimp only; omega)⟩
      rw [map_snoc hk, ← List.append_assoc, ← List.append_assoc, uniqL_snoc, List.append_assoc]; exact hS4
    · rw [show x.hunks[i].kills.take k2 = x.hunks[i].kills from List.take_of_length_le (by omega)] at hS3
      refine chk (by omega) ⟨⟨i + 1, by omega, by omega, lx2.trans ly, ?_⟩, by first | omega | (dsimp only; omega)⟩
      rw [flatMap_snoc hi]; exact hS3
  · rw [List.take_of_length_le (by omega)] at hS
    have nb := ptNames_take hs hl
    rw [List.take_of_length_le (by omega)] at nb
    have el := hS.len
    have eu := uniqL_len (lt := Sort.ltInt) (zs := x.hunks.flatMap hkNames)
    have eN : (uniqL Sort.ltInt (x.hunks.flatMap hkNames)).filter (fun y => !decide (y = x.id)) = needsL x := filter_uniq ltInt_irr ltInt_tr (fun _ _ => ltInt_anti) _ _
    revert hS el eu eN
    generalize uniqL Sort.ltInt (x.hunks.flatMap hkNames) = zs
    intro hS el eu eN
    refine ⟨fun p' l' c' t Hy => ∃ i : Nat, t = (i : Nat) ∧ i ≤ l ∧ Le Hx Hy ∧ Buf 1 Hx Hy p' l' c' (((zs.take i).filter fun y => !decide (y = x.id)).map fU), fun _ _ _ t _ => ((l : Int) - t).toNat, ⟨0, rfl, Nat.zero_le _, Le.refl _, Buf.none⟩, ?_⟩
    rintro p' l' c' t Hy ⟨k, rfl, gk, ly, hB⟩
    have dy := dx.le ly
    have hb1 := hB.1
    have hb2 : ((zs.take k).filter fun y => !decide (y = x.id)).length ≤ (zs.take k).length := List.length_filter_le _ _
    rw [List.length_take] at hb2
    simp only [List.length_map, Nat.mul_one] at hb1
    refine bcd (fun hlt2 => ?_) fun hlt2 => ?_
    · have hk : k < zs.length := by omega
      refine rsU (hS.le ly) rfl hk (ldI_i dy.1 (bcdU (fun hne => rsU (hS.le ly) rfl hk ?_) fun he => ?_))
      · refine hB.app1 ly (te := te_uint32) (new := [fU zs[k]]) rfl (by decide) rfl (by decide) rfl rfl (by simp [te_uint32]; omega) fun p2 c2 H2 hB2 l2 _ => chk (by omega) ⟨⟨k + 1, by omega, by omega, l2, ?_⟩, by first | omega | (dsimp only; omega)⟩
        rw [List.take_succ_eq_append_getElem hk, List.filter_append, List.filter_cons_of_pos (by simpa using hne), List.filter_nil, List.map_append]
        exact hB2
      · refine chk (by omega) ⟨⟨k + 1, by omega, by omega, ly, ?_⟩, by first | omega | (dsimp only; omega)⟩
        rw [List.take_succ_eq_append_getElem hk, List.filter_append, List.filter_cons_of_neg (by simpa using he), List.filter_nil, List.append_nil]
        exact hB
    · rw [List.take_of_length_le (by omega), eN] at hB
      rw [List.take_of_length_le (by omega), eN] at hb1
      have : (needsL x).length ≤ zs.length := by rw [← eN]; exact List.length_filter_le _ _
      exact hK p' l' c' Hy ((l1.trans lx).trans ly) hB.sl (by omega)
theorem centoref12_Paths.c {K : Option Addr → Nat → Nat → Hp → Prop} (h : PtS H id dp dl dc mp ml mc qp ql qc hp hl hc x) (hs : PtSm x) (hK : ∀ p l c H', Le H H' → Sl sv H' p l c (pathsL x) → K p l c H') : centoref12_Paths.C id dp dl dc mp ml mc qp ql qc hp hl hc H K := by
  apply centoref12_Paths.of
  intro b hb
  have l1 := Le.upd (c := [.int .u32 id, .slice dp dl dc, .slice mp ml mc, .slice qp ql qc, .slice hp hl hc]) hb
  have d := D5.new (H := H) (b := b) (id := id) (dp := dp) (dl := dl) (dc := dc) (mp := mp) (ml := ml) (mc := mc) (qp := qp) (ql := ql) (qc := qc) (hp := hp) (hl := hl) (hc := hc)
  revert l1 d
  generalize upd H b [.int .u32 id, .slice dp dl dc, .slice mp ml mc, .slice qp ql qc, .slice hp hl hc] = H1
  intro l1 d
  obtain ⟨rfl, hd, hm, hq, hh⟩ := h
  have eh := hh.1
  have em := hm.len
  have eq := hq.len
  have hsh := hs.hunks
  have hsm := hs.makes
  have hsq := hs.drops
  have hh1 := HkH_le hh l1
  have hm1 := hm.le l1
  have hq1 := hq.le l1
  have len : ∀ {zs : List BL} {Hx : Hp} {p : Option Addr} {l c : Nat}, Sl sv Hx p l c (uniqL Sort.ltStr zs) → zs.length ≤ 3000 → l ≤ 10000000 := fun {zs} _ _ _ _ h hz => by
    have h1 := h.len
    have h2 := uniqL_len (lt := Sort.ltStr) (zs := zs)
    omega
  refine ⟨fun p l c t Hx => ∃ i : Nat, t = (i : Nat) ∧ i ≤ ml ∧ Le H1 Hx ∧ Sl sv Hx p l c (uniqL Sort.ltStr (x.makes.take i)), fun _ _ _ t _ => ((ml : Int) - t).toNat, ⟨0, rfl, Nat.zero_le _, Le.refl _, Sl.nil⟩, ?_⟩
  rintro p l c t Hx ⟨i, rfl, gi, lx, hS⟩
  have dx := d.le lx
  refine ldL_i dx.2.2.1 (bcd (fun hlt => ldL_i dx.2.2.1 ?_) fun hlt => ?_)
  · have hi : i < x.makes.length := by omega
    refine rsT (hm1.le lx) rfl hi (centoref12_PutText.c hS (len hS (by rw [List.length_take]; omega)) fun p2 n2 c2 H2 l2 hS2 => chk (by omega) ⟨⟨i + 1, by omega, by omega, lx.trans l2, ?_⟩, by first | omega | (dsimp only; omega)⟩)
    rw [List.take_succ_eq_append_getElem hi, uniqL_snoc]; exact hS2
  rw [List.take_of_length_le (by omega)] at hS
  clear hlt gi dx
  refine ⟨fun p l c t Hx => ∃ i : Nat, t = (i : Nat) ∧ i ≤ ql ∧ Le H1 Hx ∧ Sl sv Hx p l c (uniqL Sort.ltStr (x.makes ++ x.drops.take i)), fun _ _ _ t _ => ((ql : Int) - t).toNat, ⟨0, rfl, Nat.zero_le _, lx, by simpa using hS⟩, ?_⟩
  clear hS lx
  rintro p l c t Hx ⟨i, rfl, gi, lx, hS⟩
  have dx := d.le lx
  refine ldL_i dx.2.2.2.1 (bcd (fun hlt => ldL_i dx.2.2.2.1 ?_) fun hlt => ?_)
  · have hi : i < x.drops.length := by omega
    refine rsT (hq1.le lx) rfl hi (centoref12_PutText.c hS (len hS (by rw [List.length_append, List.length_take]; omega)) fun p2 n2 c2 H2 l2 hS2 => chk (by omega) ⟨⟨i + 1, by omega, by omega, lx.trans l2, ?_⟩, by first | omega | (dsimp only; omega)⟩)
    rw [List.take_succ_eq_append_getElem hi, ← List.append_assoc, uniqL_snoc]; exact hS2
  rw [List.take_of_length_le (by omega)] at hS
  clear hlt gi dx
  refine ⟨fun p l c t Hx => ∃ i : Nat, t = (i : Nat) ∧ i ≤ hl ∧ Le H1 Hx ∧ Sl sv Hx p l c (uniqL Sort.ltStr (x.makes ++ x.drops ++ (x.hunks.take i).map (·.path))), fun _ _ _ t _ => ((hl : Int) - t).toNat, ⟨0, rfl, Nat.zero_le _, lx, by simpa using hS⟩, ?_⟩
  clear hS lx
  rintro p l c t Hx ⟨i, rfl, gi, lx, hS⟩
  have dx := d.le lx
  refine ldL_i dx.2.2.2.2 (bcd (fun hlt => ldL_i dx.2.2.2.2 ?_) fun hlt => ?_)
  · have hi : i < x.hunks.length := by omega
    refine rsHp hh1 lx rfl hi (centoref12_PutText.c hS (len hS (by rw [List.length_append, List.length_append, List.length_map, List.length_take]; omega)) fun p2 n2 c2 H2 l2 hS2 => chk (by omega) ⟨⟨i + 1, by omega, by omega, lx.trans l2, ?_⟩, by first | omega | (dsimp only; omega)⟩)
    rw [map_snoc hi, ← List.append_assoc, uniqL_snoc]; exact hS2
  rw [List.take_of_length_le (by omega)] at hS
  exact hK p l c Hx (l1.trans lx) hS
end
end Go.Proofs.YtganockeifkecaaGreat
namespace Go.Proofs.YtganockeifkecaaGreat
open Go.V
/-! ### The document: is it a hunk, a patch -/
theorem lines_one (s : BL) : decide ((lines s).length = 1) = (decide (s ≠ []) && decide (10 ∉ s.dropLast)) := by
  by_cases h : (10 : UInt8) ∈ s
  · obtain ⟨a, r, rfl, hn⟩ := List.eq_append_cons_of_mem h
    have e := linesA_line [] a r hn
    have : lines (a ++ 10 :: r) = (a ++ [10]) :: lines r := by simpa [lines] using e
    rw [this, List.length_cons]
    have hf := flat_lines [] r
    cases r with
    | nil =>
      have e2 : (a ++ [(10 : UInt8)]).dropLast = a := by simp
      rw [e2]
      simp [hn, lines, linesA]
    | cons y r =>
      have h1 : lines (y :: r) ≠ [] := fun e => by
        have : (linesA [] (y :: r)).flatten = [] := by
          have : linesA [] (y :: r) = [] := e
          rw [this]; rfl
        rw [hf] at this; simp at this
      have h2 := List.length_pos_iff.2 h1
      have h3 : (10 : UInt8) ∈ (a ++ 10 :: y :: r).dropLast := by simp
      rw [decide_eq_false (by omega), decide_eq_false (p := ¬ (10 : UInt8) ∈ (a ++ 10 :: y :: r).dropLast) (fun h => h h3)]; simp
  · have e := linesA_last [] s h
    have hl : lines s = if s = [] then [] else [s] := by simpa [lines] using e
    rw [hl]
    by_cases h0 : s = []
    · subst h0; simp
    · rw [if_neg h0]
      have h3 : (10 : UInt8) ∉ s.dropLast := fun hm => h (List.dropLast_subset _ hm)
      simp [h0, h3]
theorem lineB_one (s : BL) : lineB s = (decide ((lines s).length = 1) && decide (s.length ≤ 60)) := by
  rw [lines_one]
  unfold lineB
  cases decide (s ≠ []) <;> cases decide (s.length ≤ 60) <;> simp
theorem nil_lt {s : BL} (h : pathB s = true) : Sort.ltStr [] s = true := by
  cases s with
  | nil => simp [pathB] at h
  | cons y s => unfold Sort.ltStr; rw [decide_eq_true_eq]; exact List.nil_lt_cons _ _
def edgeB (id fr n : Int) (e : Ed) : Bool := namedB id fr n e.a && (namedB id fr n e.b && decide (¬ e.a = e.b))
def killB (id fr n : Int) (k : Lid) : Bool := namedB id fr n k && decide (¬ k.p = id)
theorem hunkB_eq (id fr : Int) (h : Hk) : hunkB id fr h = (decide (h.adds.length ≤ 40) && (decide (h.edges.length ≤ 80) && (decide (h.kills.length ≤ 40) && (h.adds.all lineB && ((h.edges.all (edgeB id fr h.adds.length)) && ((h.kills.all (killB id fr h.adds.length)) && (rsB edLt h.edges && rsB lidLt h.kills))))))) := rfl
theorem killB_eq {id fr n : Int} {k : Lid} (h : ¬ k.p = id) : killB id fr n k = namedB id 0 0 k := by
  unfold killB namedB
  rw [decide_eq_true h]; simp
section
variable {H : Hp} {p : Option Addr} {l cc : Nat}
theorem rsEa {xs : List Ed} (h : Sn 4 edC H p l cc xs) {k : Nat} {e : Int} (he : e = (k : Int)) (hk : k < xs.length) {F : Int → Int → Prop} (hF : F xs[k].a.p xs[k].a.n) : IDX e l fun k => NIL p fun b o => ldI .u32 (rd H b (o + (k * 4))) fun x => ldI .i64 (rd H b ((o + (k * 4)) + 1)) fun y => F x y := by
  have hl := h.len
  obtain ⟨b, o, rfl, hh⟩ := h.at hk
  exact idxN k he (by omega) (nil (ldI_i (hh k hk 0 _ rfl) (ldI_i (hh k hk 1 _ rfl) hF)))
theorem rsEb {xs : List Ed} (h : Sn 4 edC H p l cc xs) {k : Nat} {e : Int} (he : e = (k : Int)) (hk : k < xs.length) {F : Int → Int → Prop} (hF : F xs[k].b.p xs[k].b.n) : IDX e l fun k => NIL p fun b o => ldI .u32 (rd H b ((o + (k * 4)) + 2)) fun x => ldI .i64 (rd H b (((o + (k * 4)) + 2) + 1)) fun y => F x y := by
  have hl := h.len
  obtain ⟨b, o, rfl, hh⟩ := h.at hk
  exact idxN k he (by omega) (nil (ldI_i (hh k hk 2 _ rfl) (ldI_i (hh k hk 3 _ rfl) hF)))
theorem rsLp {xs : List Lid} (h : Sn 2 lidC H p l cc xs) {k : Nat} {e : Int} (he : e = (k : Int)) (hk : k < xs.length) {F : Int → Prop} (hF : F xs[k].p) : IDX e l fun k => NIL p fun b o => ldI .u32 (rd H b (o + (k * 2))) F := by
  have hl := h.len
  obtain ⟨b, o, rfl, hh⟩ := h.at hk
  exact idxN k he (by omega) (nil (ldI_i (hh k hk 0 _ rfl) hF))
theorem eqL {x y : Lid} {A B : Prop} (h : x = y → A) (h' : ¬ x = y → B) : bc (decide (x.p = y.p) && decide (x.n = y.n)) A B := by
  have e : (decide (x.p = y.p) && decide (x.n = y.n)) = decide (x = y) := by
    obtain ⟨a, b⟩ := x
    obtain ⟨c, d⟩ := y
    rw [Bool.eq_iff_iff]; simp
  rw [e]
  exact bcd h h'
theorem centoref12_hunk.c {K : Bool → Hp → Prop} {id fr : Int} {h : Hk} {ap ep kp : Option Addr} {al ac el ec kl kc : Nat} (ha : Sl sv H ap al ac h.adds) (he : Sn 4 edC H ep el ec h.edges) (hk : Sn 2 lidC H kp kl kc h.kills) (hsm : HkSm h) (hf : 0 ≤ fr ∧ fr ≤ 1000000000) (hK : ∀ H', Le H H' → K (pathB h.path && hunkB id fr h) H') : centoref12_hunk.C (mkB h.path) ap al ac ep el ec kp kl kc id fr H K := by
  apply centoref12_hunk.of
  intro b hb
  have l1 := Le.upd (c := [.string (mkB h.path), .slice ap al ac, .slice ep el ec, .slice kp kl kc]) hb
  have d := D4.new (H := H) (b := b) (f := mkB h.path) (ap := ap) (al := al) (ac := ac) (ep := ep) (el := el) (ec := ec) (kp := kp) (kl := kl) (kc := kc)
  revert l1 d
  generalize upd H b [.string (mkB h.path), .slice ap al ac, .slice ep el ec, .slice kp kl kc] = H1
  intro l1 d
  have ea := ha.len
  have ee := he.len
  have ek := hk.len
  have hsa := hsm.adds
  have hse := hsm.edges
  have hsk := hsm.kills
  have hpl := hsm.path
  have ha := ha.le l1
  have he := he.le l1
  have hk := hk.le l1
  have good : ∀ {Hx}, Le H1 Hx → (pathB h.path && hunkB id fr h) = true → K true Hx := fun lx e => by have := hK _ (l1.trans lx); rw [e] at this; exact this
  have bad : ∀ {Hx}, Le H1 Hx → (pathB h.path && hunkB id fr h) = false → K false Hx := fun lx e => by have := hK _ (l1.trans lx); rw [e] at this; exact this
  rw [hunkB_eq] at good bad
  clear hK
  refine ldS_i d.1 (centoref12_IsPath.c (by omega) (bcn (fun h0 => bad (Le.refl _) (by rw [h0]; rfl)) fun h0 => ?_))
  refine ldL_i d.2.1 (bcd (fun g => bad (Le.refl _) (by rw [decide_eq_false (by omega : ¬ h.adds.length ≤ 40)]; simp)) fun g1 => ldL_i d.2.2.1 (bcd (fun g => bad (Le.refl _) (by rw [decide_eq_false (by omega : ¬ h.edges.length ≤ 80)]; simp)) fun g2 => ldL_i d.2.2.2 (bcd (fun g => bad (Le.refl _) (by rw [decide_eq_false (by omega : ¬ h.kills.length ≤ 40)]; simp)) fun g3 => ?_)))
  unfold centoref12_hunk.k1
  refine ⟨fun t Hx => ∃ i : Nat, t = (i : Nat) ∧ i ≤ al ∧ Le H1 Hx ∧ (h.adds.take i).all lineB = true, fun t _ => ((al : Int) - t).toNat, ⟨0, rfl, Nat.zero_le _, Le.refl _, rfl⟩, ?_⟩
  rintro t Hx ⟨i, rfl, gi, lx, hp⟩
  have dx := d.le lx
  refine ldL_i dx.2.1 (bcd (fun hlt => ldL_i dx.2.1 ?_) fun hlt => ?_)
  · have hi : i < h.adds.length := by omega
    have ht := hsm.text _ (List.getElem_mem hi)
    have badL : ∀ {Hy}, Le H1 Hy → lineB h.adds[i] = false → K false Hy := fun ly e => bad ly (by rw [all_bad hi e]; simp)
    refine rsT (ha.le lx) rfl hi (centoref10_Lines.c (by rw [mkB_size]; omega) fun p2 l2 c2 H2 hx le2 _ _ => ?_)
    have e2 := hx.len
    have e2 : l2 = (lines h.adds[i]).length := e2
    refine bcd (fun hn => badL (lx.trans le2) ?_) fun hn => ?_
    · rw [lineB_one, decide_eq_false (by omega)]; rfl
    rw [mkB_size]
    refine bcd (fun hn2 => badL (lx.trans le2) ?_) fun hn2 => ?_
    · rw [lineB_one, decide_eq_false (by omega : ¬ h.adds[i].length ≤ 60)]; simp
    · exact chk (by omega) ⟨⟨i + 1, by omega, by omega, lx.trans le2, all_next hi hp (by rw [lineB_one, decide_eq_true (by omega), decide_eq_true (by omega)]; rfl)⟩, by first | omega | (dsimp only; omega)⟩
  have pa := all_end hp (by omega)
  clear hp hlt gi i
  refine ldL_i dx.2.1 (chk (by omega) ?_)
  have eal : (al : Int) = (h.adds.length : Nat) := by omega
  rw [eal]
  clear dx
  refine ⟨fun t Hy => ∃ i : Nat, t = (i : Nat) ∧ i ≤ el ∧ Le Hx Hy ∧ (h.edges.take i).all (edgeB id fr h.adds.length) = true ∧ rsB edLt (h.edges.take i) = true, fun t _ => ((el : Int) - t).toNat, ⟨0, rfl, Nat.zero_le _, Le.refl _, rfl, rfl⟩, ?_⟩
  rintro t Hy ⟨i, rfl, gi, ly, hp, hr⟩
  have ly := lx.trans ly
  have dy := d.le ly
  refine ldL_i dy.2.2.1 (bcd (fun hlt => ldL_i dy.2.2.1 ?_) fun hlt => ?_)
  · have hi : i < h.edges.length := by omega
    have badE : ∀ {Hz}, Le H1 Hz → edgeB id fr h.adds.length h.edges[i] = false → K false Hz := fun lz e => bad lz (by rw [all_bad hi e]; simp)
    refine rsE (he.le ly) rfl hi (DE.mk (e := h.edges[i]) fun q H2 hq dq l2 => ldI_i dq.1 (ldI_i dq.2.1 ?_))
    refine centoref12_named.c fun H3 l3 => bcn (fun hb => badE (ly.trans (l2.trans l3)) (by unfold edgeB; rw [hb]; rfl)) fun hb1 => ?_
    have dq := dq.le l3
    refine ldI_i dq.2.2.1 (ldI_i dq.2.2.2 ?_)
    refine centoref12_named.c fun H4 l4 => bcn (fun hb => badE (ly.trans (l2.trans (l3.trans l4))) (by unfold edgeB; rw [hb1, hb]; rfl)) fun hb2 => ?_
    have dq := dq.le l4
    refine ldI_i dq.1 (ldI_i dq.2.1 (ldI_i dq.2.2.1 (ldI_i dq.2.2.2 (eqL (fun e => badE (ly.trans (l2.trans (l3.trans l4))) (by unfold edgeB; rw [hb1, hb2]; simp [e])) fun hne => ?_))))
    have hE : edgeB id fr h.adds.length h.edges[i] = true := by unfold edgeB; rw [hb1, hb2]; simp [hne]
    have lz : Le Hy H4 := l2.trans (l3.trans l4)
    unfold centoref12_hunk.k2
    have next : ∀ {H5}, Le H4 H5 → rsB edLt (h.edges.take (i + 1)) = true → CHK .i64 (((i : Nat) : Int) + (1 : Int)) fun x => (∃ j : Nat, x = (j : Nat) ∧ j ≤ el ∧ Le Hx H5 ∧ (h.edges.take j).all (edgeB id fr h.adds.length) = true ∧ rsB edLt (h.edges.take j) = true) ∧ ((el : Int) - x).toNat < ((el : Int) - ((i : Nat) : Int)).toNat := fun l5 hr' =>
      chk (by omega) ⟨⟨i + 1, by omega, by omega, (‹Le Hx Hy›).trans (lz.trans l5), all_next hi hp hE, hr'⟩, by omega⟩
    refine bcd (fun hpos => ?_) fun hpos => next (Le.refl _) (rsB_one (by rw [List.length_take]; omega))
    have hi1 : i - 1 < h.edges.length := by omega
    have dy4 := dy.le lz
    have badR : ∀ {Hz}, Le H1 Hz → edLt h.edges[i - 1] h.edges[i] = false → K false Hz := fun lz e => bad lz (by rw [rsB_bad hi (by omega) e]; simp)
    have goodR : edLt h.edges[i - 1] h.edges[i] = true → rsB edLt (h.edges.take (i + 1)) = true := fun e => rsB_next hi (by omega) hr e
    unfold edLt at badR goodR
    refine ldL_i dy4.2.2.1 (chk (by omega) (rsEa ((he.le ly).le lz) (k := i - 1) (by omega) hi1 (ldI_i dq.1 (ldI_i dq.2.1 ?_))))
    refine centoref12_Less.c (x := h.edges[i - 1].a) (y := h.edges[i].a) fun H5 l5 => bc_i (fun hl => next l5 (goodR (by rw [hl]; rfl))) fun hl => ?_
    have dq5 := dq.le l5
    have dy5 := dy4.le l5
    refine ldL_i dy5.2.2.1 (chk (by omega) (rsEa (((he.le ly).le lz).le l5) (k := i - 1) (by omega) hi1 (ldI_i dq5.1 (ldI_i dq5.2.1 (eqL (x := h.edges[i - 1].a) (y := h.edges[i].a) (fun heq => ?_) fun hne2 => badR (ly.trans (lz.trans l5)) (by rw [hl, decide_eq_false hne2]; rfl))))))
    refine ldL_i dy5.2.2.1 (chk (by omega) (rsEb (((he.le ly).le lz).le l5) (k := i - 1) (by omega) hi1 (ldI_i dq5.2.2.1 (ldI_i dq5.2.2.2 ?_))))
    refine centoref12_Less.c (x := h.edges[i - 1].b) (y := h.edges[i].b) fun H6 l6 => bcn (fun hl2 => badR (ly.trans (lz.trans (l5.trans l6))) (by rw [hl, hl2, Bool.and_false]; rfl)) fun hl2 => ?_
    exact next (l5.trans l6) (goodR (by rw [hl, hl2, decide_eq_true heq]; rfl))
  have pe := all_end hp (by omega)
  have re : rsB edLt h.edges = true := by rwa [List.take_of_length_le (by omega)] at hr
  clear hp hr hlt gi i dy
  refine ⟨fun t Hz => ∃ i : Nat, t = (i : Nat) ∧ i ≤ kl ∧ Le Hy Hz ∧ (h.kills.take i).all (killB id fr h.adds.length) = true ∧ rsB lidLt (h.kills.take i) = true, fun t _ => ((kl : Int) - t).toNat, ⟨0, rfl, Nat.zero_le _, Le.refl _, rfl, rfl⟩, ?_⟩
  rintro t Hz ⟨i, rfl, gi, lz, hp, hr⟩
  have lz0 := lz
  have lz := ly.trans lz
  have dz := d.le lz
  refine ldL_i dz.2.2.2 (bcd (fun hlt => ldL_i dz.2.2.2 ?_) fun hlt => ?_)
  · have hi : i < h.kills.length := by omega
    have badK : ∀ {Hw}, Le H1 Hw → killB id fr h.adds.length h.kills[i] = false → K false Hw := fun lw e => bad lw (by rw [all_bad hi e]; simp)
    refine rsLp (hk.le lz) rfl hi (bcd (fun e => badK lz (by unfold killB; simp [e])) fun hne => ldL_i dz.2.2.2 (rsL (hk.le lz) rfl hi ?_))
    have e0 : (0 : Int) = 0 + 0 := rfl
    show centoref12_named.C h.kills[i].p h.kills[i].n id (0 : Int) ((0 : Int) + 0) Hz _
    refine centoref12_named.c fun H2 l2 => bcn (fun hb => badK (lz.trans l2) (by rw [killB_eq hne]; exact hb)) fun hb => ?_
    have hE : killB id fr h.adds.length h.kills[i] = true := by rw [killB_eq hne]; exact hb
    have next : ∀ {H5}, Le H2 H5 → rsB lidLt (h.kills.take (i + 1)) = true → CHK .i64 (((i : Nat) : Int) + (1 : Int)) fun x => (∃ j : Nat, x = (j : Nat) ∧ j ≤ kl ∧ Le Hy H5 ∧ (h.kills.take j).all (killB id fr h.adds.length) = true ∧ rsB lidLt (h.kills.take j) = true) ∧ ((kl : Int) - x).toNat < ((kl : Int) - ((i : Nat) : Int)).toNat := fun l5 hr' =>
      chk (by omega) ⟨⟨i + 1, by omega, by omega, lz0.trans (l2.trans l5), all_next hi hp hE, hr'⟩, by omega⟩
    refine bcd (fun hpos => ?_) fun hpos => next (Le.refl _) (rsB_one (by rw [List.length_take]; omega))
    have hi1 : i - 1 < h.kills.length := by omega
    have dz2 := dz.le l2
    refine ldL_i dz2.2.2.2 (chk (by omega) (rsL ((hk.le lz).le l2) (k := i - 1) (by omega) hi1 (ldL_i dz2.2.2.2 (rsL ((hk.le lz).le l2) rfl hi ?_))))
    refine centoref12_Less.c (x := h.kills[i - 1]) (y := h.kills[i]) fun H3 l3 => bcn (fun hl => bad (lz.trans (l2.trans l3)) (by rw [rsB_bad hi (by omega) hl]; simp)) fun hl => next l3 (rsB_next hi (by omega) hr hl)
  · have pk := all_end hp (by omega)
    have rk : rsB lidLt h.kills = true := by rwa [List.take_of_length_le (by omega)] at hr
    refine good lz ?_
    rw [h0, pa, pe, pk, re, rk, decide_eq_true (by omega), decide_eq_true (by omega), decide_eq_true (by omega)]; rfl
end
end Go.Proofs.YtganockeifkecaaGreat
namespace Go.Proofs.YtganockeifkecaaGreat
open Go.V
section
variable {H : Hp} {id : Int} {dp mp qp hp : Option Addr} {dl dc ml mc ql qc hl hc : Nat} {x : Pt}
theorem isB_mk {x : Pt} (h0 : ¬ x.id = 0) (h1 : x.hunks.length ≤ 6) (h2 : x.makes.length ≤ 6) (h3 : x.drops.length ≤ 6) (h4 : x.deps.length ≤ 60) (h5 : risB x.deps = true) (h6 : x.id ∉ x.deps) (h7 : pathsR x.makes = true) (h8 : pathsR x.drops = true)
    (h9 : ∀ s ∈ x.makes, s ∉ x.drops) (h10 : hunksB x.id 0 [] x.hunks = true) (h11 : ∀ n ∈ needsL x, n ∈ x.deps) : isB x = true := by
  unfold risB at h5
  unfold pathsR at h7 h8
  simp only [Bool.and_eq_true, Bool.not_eq_true', decide_eq_false_iff_not] at h5 h7 h8
  unfold isB pathsB depsB
  simp only [Bool.and_eq_true, decide_eq_true_eq, Bool.not_eq_true', decide_eq_false_iff_not]
  refine ⟨h0, h1, ⟨h2, h7.1, h7.2⟩, ⟨h3, h8.1, h8.2⟩, ⟨h4, h5.1, h5.2, h6, ?_⟩, ?_, h10⟩
  · rw [List.all_eq_true]; intro n hn; exact decide_eq_true (h11 n hn)
  · rw [List.any_eq_false]; intro s hs; simpa using h9 s hs
theorem isB_get {x : Pt} (h : isB x = true) : ¬ x.id = 0 ∧ x.hunks.length ≤ 6 ∧ x.makes.length ≤ 6 ∧ x.drops.length ≤ 6 ∧ x.deps.length ≤ 60 ∧ risB x.deps = true ∧ x.id ∉ x.deps ∧ pathsR x.makes = true ∧ pathsR x.drops = true ∧ (∀ s ∈ x.makes, s ∉ x.drops) ∧ hunksB x.id 0 [] x.hunks = true ∧ ∀ n ∈ needsL x, n ∈ x.deps := by
  unfold isB pathsB depsB at h
  simp only [Bool.and_eq_true, decide_eq_true_eq, Bool.not_eq_true', decide_eq_false_iff_not] at h
  obtain ⟨h0, h1, ⟨h2, h7, h7'⟩, ⟨h3, h8, h8'⟩, ⟨h4, h5, h5', h6, h11⟩, h9, h10⟩ := h
  unfold risB pathsR
  simp only [Bool.and_eq_true, Bool.not_eq_true', decide_eq_false_iff_not]
  refine ⟨h0, h1, h2, h3, h4, ⟨h5, h5'⟩, h6, ⟨h7, h7'⟩, ⟨h8, h8'⟩, fun s hs => ?_, h10, fun n hn => ?_⟩
  · rw [List.any_eq_false] at h9; simpa using h9 s hs
  · rw [List.all_eq_true] at h11; exact of_decide_eq_true (h11 n hn)
theorem centoref12_Is.c {K : Bool → Hp → Prop} (h : PtS H id dp dl dc mp ml mc qp ql qc hp hl hc x) (hs : PtSm x) (hK : ∀ H', Le H H' → K (isB x) H') : centoref12_Is.C id dp dl dc mp ml mc qp ql qc hp hl hc H K := by
  apply centoref12_Is.of
  intro b hb
  have l1 := Le.upd (c := [.int .u32 id, .slice dp dl dc, .slice mp ml mc, .slice qp ql qc, .slice hp hl hc]) hb
  have d := D5.new (H := H) (b := b) (id := id) (dp := dp) (dl := dl) (dc := dc) (mp := mp) (ml := ml) (mc := mc) (qp := qp) (ql := ql) (qc := qc) (hp := hp) (hl := hl) (hc := hc)
  revert l1 d
  generalize upd H b [.int .u32 id, .slice dp dl dc, .slice mp ml mc, .slice qp ql qc, .slice hp hl hc] = H1
  intro l1 d
  have hS := h.up l1
  obtain ⟨rfl, hd, hm, hq, hh⟩ := h
  have ed := hd.len
  have em := hm.len
  have eq := hq.len
  have eh := hh.1
  have sd := hs.deps
  have sm := hs.makes
  have sq := hs.drops
  have sh := hs.hunks
  have hd := hd.le l1
  have hm := hm.le l1
  have hq := hq.le l1
  have hh := HkH_le hh l1
  have good : ∀ {Hx}, Le H1 Hx → isB x = true → K true Hx := fun lx e => by have := hK _ (l1.trans lx); rw [e] at this; exact this
  have bad : ∀ {Hx}, Le H1 Hx → (isB x = true → False) → K false Hx := fun lx e => by have := hK _ (l1.trans lx); rw [notB e] at this; exact this
  have l0 := Le.refl H1
  clear hK
  refine ldI_i d.1 (bcd (fun g => bad l0 fun e => (isB_get e).1 g) fun g0 => ?_)
  refine ldL_i d.2.1 (centoref12_Rising.c hd (by omega) (bcn (fun g => bad l0 fun e => by rw [(isB_get e).2.2.2.2.2.1] at g; cases g) fun g1 => ?_))
  refine ldL_i d.2.1 (ldI_i d.1 (centoref12_Has.c hd (by omega) (bcd (fun g => bad l0 fun e => (isB_get e).2.2.2.2.2.2.1 g) fun g2 => ?_)))
  refine ldL_i d.2.2.1 (centoref12_paths.c hm (by omega) (fun s h => Nat.le_trans (hs.mtext s h) (by decide)) (bcn (fun g => bad l0 fun e => by rw [(isB_get e).2.2.2.2.2.2.2.1] at g; cases g) fun g3 => ?_))
  refine ldL_i d.2.2.2.1 (centoref12_paths.c hq (by omega) (fun s h => Nat.le_trans (hs.dtext s h) (by decide)) (bcn (fun g => bad l0 fun e => by rw [(isB_get e).2.2.2.2.2.2.2.2.1] at g; cases g) fun g4 => ?_))
  refine ldL_i d.2.2.2.2 (bcd (fun g => bad l0 fun e => by have := (isB_get e).2.1; omega) fun g5 => ?_)
  refine ldL_i d.2.1 (bcd (fun g => bad l0 fun e => by have := (isB_get e).2.2.2.2.1; omega) fun g6 => ?_)
  refine ldL_i d.2.2.1 (bcd (fun g => bad l0 fun e => by have := (isB_get e).2.2.1; omega) fun g7 => ?_)
  refine ldL_i d.2.2.2.1 (bcd (fun g => bad l0 fun e => by have := (isB_get e).2.2.2.1; omega) fun g8 => ?_)
  unfold centoref12_Is.k1
  refine ⟨fun t Hx => ∃ i : Nat, t = (i : Nat) ∧ i ≤ ml ∧ Le H1 Hx ∧ ∀ s ∈ x.makes.take i, s ∉ x.drops, fun t _ => ((ml : Int) - t).toNat, ⟨0, rfl, Nat.zero_le _, l0, by simp⟩, ?_⟩
  rintro t Hx ⟨i, rfl, gi, lx, hp⟩
  have dx := d.le lx
  refine ldL_i dx.2.2.1 (bcd (fun hlt => ldL_i dx.2.2.2.1 (ldL_i dx.2.2.1 ?_)) fun hlt => ?_)
  · have hi : i < x.makes.length := by omega
    refine rsT (hm.le lx) rfl hi (centoref12_In.c (hq.le lx) (by omega) (bcd (fun g => bad lx fun e => (isB_get e).2.2.2.2.2.2.2.2.2.1 _ (List.getElem_mem hi) g) fun g => ?_))
    refine chk (by omega) ⟨⟨i + 1, by omega, by omega, lx, fun s hs => ?_⟩, by first | omega | (dsimp only; omega)⟩
    rw [List.take_succ_eq_append_getElem hi, List.mem_append] at hs
    rcases hs with hs | hs
    · exact hp s hs
    · simp at hs; subst hs; exact g
  rw [List.take_of_length_le (by omega)] at hp
  have g9 := hp
  clear hp hlt gi i dx
  refine ⟨fun n t Hy => ∃ (i : Nat) (s : BL), t = (i : Nat) ∧ i ≤ hl ∧ Le H1 Hy ∧ (0 ≤ n ∧ n ≤ i * 1000) ∧ (i = 0 → s = []) ∧ (∀ h : 0 < i, ∃ h2 : i - 1 < x.hunks.length, s = x.hunks[i - 1].path) ∧ hunksB x.id 0 [] x.hunks = hunksB x.id n s (x.hunks.drop i), fun _ t _ => ((hl : Int) - t).toNat, ⟨0, [], rfl, Nat.zero_le _, lx, ⟨by decide, by decide⟩, fun _ => rfl, fun h => absurd h (Nat.lt_irrefl _), rfl⟩, ?_⟩
  clear lx
  rintro n t Hx ⟨i, s, rfl, gi, lx, hn, hs0, hs1, he⟩
  have dx := d.le lx
  refine ldL_i dx.2.2.2.2 (bcd (fun hlt => ?_) fun hlt => ?_)
  · have hi : i < x.hunks.length := by omega
    have hsm := hs.each _ (List.getElem_mem hi)
    have hsa := hsm.adds
    rw [List.drop_eq_getElem_cons hi, hunksB] at he
    have badH : ∀ {Hy}, Le H1 Hy → (pathB x.hunks[i].path && (Sort.ltStr s x.hunks[i].path && (hunkB x.id n x.hunks[i] && hunksB x.id (n + x.hunks[i].adds.length) x.hunks[i].path (x.hunks.drop (i + 1))))) = false → K false Hy := fun ly e => bad ly fun h => by
      have := (isB_get h).2.2.2.2.2.2.2.2.2.2.1
      rw [he, e] at this; cases this
    have main : Sort.ltStr s x.hunks[i].path = true ∨ i = 0 → IDX ((i : Nat) : Int) hl fun k126 => NIL hp fun bq127 oq128 => ldS (rd Hx bq127 (oq128 + (k126 * 4))) fun x129 => ldL (rd Hx bq127 ((oq128 + (k126 * 4)) + 1)) fun xp130 xl131 xc132 => ldL (rd Hx bq127 (((oq128 + (k126 * 4)) + 1) + 1)) fun xp133 xl134 xc135 => ldL (rd Hx bq127 ((((oq128 + (k126 * 4)) + 1) + 1) + 1)) fun xp136 xl137 xc138 => ldI .u32 (rd Hx b 0) fun x139 => centoref12_hunk.C x129 xp130 xl131 xc132 xp133 xl134 xc135 xp136 xl137 xc138 x139 n Hx fun r140 Hx141 => bc ((!r140)) (K false Hx141) (centoref12_Is.k2 Hx (fun n t Hy => ∃ (i : Nat) (s : BL), t = (i : Nat) ∧ i ≤ hl ∧ Le H1 Hy ∧ (0 ≤ n ∧ n ≤ i * 1000) ∧ (i = 0 → s = []) ∧ (∀ h : 0 < i, ∃ h2 : i - 1 < x.hunks.length, s = x.hunks[i - 1].path) ∧ hunksB x.id 0 [] x.hunks = hunksB x.id n s (x.hunks.drop i)) b ((i : Nat) : Int) (fun _ t _ => ((hl : Int) - t).toNat) n Hx141) := fun hls => by
      refine rsH2 hh lx rfl hi fun ap al ac ep el ec kp kl kc s1 s2 s3 => ldI_i dx.1 ?_
      refine centoref12_hunk.c (s1.le lx) (s2.le lx) (s3.le lx) hsm (by omega) fun H2 l2 => bcn (fun g => badH (lx.trans l2) ?_) fun g => ?_
      · rw [Bool.and_eq_false_iff] at g
        rcases g with g | g <;> rw [g] <;> simp
      · rw [Bool.and_eq_true] at g
        have hls : Sort.ltStr s x.hunks[i].path = true := hls.elim id fun h0 => by rw [hs0 h0]; exact nil_lt g.1
        rw [g.1, g.2, hls] at he
        simp only [Bool.true_and] at he
        unfold centoref12_Is.k2
        have d2 := dx.le l2
        refine ldL_i d2.2.2.2.2 (rsHa hh (lx.trans l2) rfl hi fun ap2 al2 ac2 s4 => ?_)
        have e4 := s4.len
        refine chk (by omega) (chk (by omega) ⟨⟨i + 1, x.hunks[i].path, by omega, by omega, lx.trans l2, by omega, fun h => absurd h (by omega), fun _ => ⟨by omega, rfl⟩, ?_⟩, by first | omega | (dsimp only; omega)⟩)
        rw [he, e4]
    refine bcd (fun hpos => ?_) fun hpos => ?_
    · obtain ⟨h2, es⟩ := hs1 (by omega)
      refine ldL_i dx.2.2.2.2 (rsHp hh lx rfl hi (ldL_i dx.2.2.2.2 (chk (by omega) (rsHp hh lx (k := i - 1) (by omega) h2 ?_))))
      rw [le_str]
      refine bcn (fun hle => badH lx ?_) fun hgt => ?_
      · rw [es, hle]; simp
      · refine ldL_i dx.2.2.2.2 (main (.inl (by rw [es]; exact hgt)))
    · refine ldL_i dx.2.2.2.2 (main (.inr (by omega)))
  · rw [List.drop_eq_nil_of_le (by omega), hunksB] at he
    have g10 := he
    refine ldI_i dx.1 (ldL_i dx.2.1 (ldL_i dx.2.2.1 (ldL_i dx.2.2.2.1 (ldL_i dx.2.2.2.2 ?_))))
    refine centoref12_Needs.c (hS.up lx) hs fun p l c H2 l2 hN hln => ?_
    have en := hN.len
    refine ⟨fun t Hy => ∃ i : Nat, t = (i : Nat) ∧ i ≤ l ∧ Le H2 Hy ∧ ∀ n ∈ (needsL x).take i, n ∈ x.deps, fun t _ => ((l : Int) - t).toNat, ⟨0, rfl, Nat.zero_le _, Le.refl _, by simp⟩, ?_⟩
    rintro t Hy ⟨j, rfl, gj, ly, hp⟩
    have lx2 := (lx.trans l2).trans ly
    have dy := d.le lx2
    refine bcd (fun hlt => ldL_i dy.2.1 ?_) fun hlt => ?_
    · have hj : j < (needsL x).length := by omega
      refine rsU (hN.le ly) rfl hj (centoref12_Has.c (hd.le lx2) (by omega) (bcnd (fun g => bad lx2 fun e => g ((isB_get e).2.2.2.2.2.2.2.2.2.2.2 _ (List.getElem_mem hj))) fun g => ?_))
      refine chk (by omega) ⟨⟨j + 1, by omega, by omega, ly, fun n hn => ?_⟩, by first | omega | (dsimp only; omega)⟩
      rw [List.take_succ_eq_append_getElem hj, List.mem_append] at hn
      rcases hn with hn | hn
      · exact hp n hn
      · simp at hn; subst hn; exact g
    · rw [List.take_of_length_le (by omega)] at hp
      exact good lx2 (isB_mk g0 (by omega) (by omega) (by omega) (by omega) g1 g2 g3 g4 g9 g10 hp)
end
end Go.Proofs.YtganockeifkecaaGreat
