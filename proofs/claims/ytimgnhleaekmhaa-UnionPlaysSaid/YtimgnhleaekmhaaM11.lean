/- For every input MatchParts returns true, and what came in reads as it did: no condition. -/
import Derived.Test.YtimgnhleaekmhaaM10
namespace Go.Proofs.Ytimgnhleaekmhaa
open Go.V
open Go.ChangeShapes Go.WideShapes Go.ChangeAt Go.RowKit
theorem lcs_snoc1 (x : ByteArray) : ∀ a b : List ByteArray, lcs a b ≤ lcs (a ++ [x]) b ∧ lcs (a ++ [x]) b ≤ lcs a b + 1
  | [], b => by
    have := lcs_le_left [x] b
    simp [lcs] at *; omega
  | y :: a, [] => by simp [lcs_nil]
  | y :: a, z :: b => by
    have h1 := lcs_snoc1 x a b
    have h2 := lcs_snoc1 x a (z :: b)
    have h3 := lcs_snoc1 x (y :: a) b
    rw [List.cons_append, lcs, lcs]
    rw [List.cons_append] at h3
    split <;> omega
termination_by a b => a.length + b.length
theorem lcs_snoc2 (x : ByteArray) : ∀ a b : List ByteArray, lcs (a ++ [x]) (b ++ [x]) = lcs a b + 1
  | [], [] => by simp [lcs]
  | [], z :: b => by
    have h := lcs_snoc2 x [] b
    simp only [List.nil_append, List.cons_append, lcs] at h ⊢
    split
    · rfl
    · rw [h]; simp
  | y :: a, [] => by
    have h := lcs_snoc2 x a []
    simp only [List.nil_append, List.cons_append, lcs, lcs_nil] at h ⊢
    split
    · rfl
    · rw [h]; simp
  | y :: a, z :: b => by
    have h1 := lcs_snoc2 x a b
    have h2 := lcs_snoc2 x a (z :: b)
    have h3 := lcs_snoc2 x (y :: a) b
    simp only [List.cons_append] at h1 h2 h3 ⊢
    rw [lcs, lcs]
    split <;> omega
termination_by a b => a.length + b.length
theorem lcs_snoc3 (x : ByteArray) (a b : List ByteArray) : lcs a b ≤ lcs a (b ++ [x]) := by
  rw [lcs_comm a b, lcs_comm a (b ++ [x])]; exact (lcs_snoc1 x b a).1

def ltp (x : Int) : ByteArray := ⟨⟨[UInt8.ofNat (112 + (x.toNat % 4))]⟩⟩
/-- What the loop has put together at i. -/
def mixI (a : List ByteArray) (bt : List Int) : Nat → List ByteArray
  | 0 => []
  | i + 1 => mixI a bt i ++ (match bt[i]? with | some p => [ltp p] | none => []) ++ (match a[i]? with | some x => [x] | none => [])
theorem mixI_len (a : List ByteArray) (bt : List Int) : ∀ i, (mixI a bt i).length ≤ 2 * i
  | 0 => by simp [mixI]
  | i + 1 => by
    have := mixI_len a bt i
    rw [mixI]
    cases bt[i]? <;> cases a[i]? <;> simp <;> omega
theorem mixI_lcs (a : List ByteArray) (bt : List Int) : ∀ i, i ≤ a.length → i ≤ lcs (a.take i) (mixI a bt i)
  | 0, _ => Nat.zero_le _
  | i + 1, h => by
    have ih := mixI_lcs a bt i (by omega)
    have hi : i < a.length := by omega
    rw [mixI, List.take_succ_eq_append_getElem hi, List.getElem?_eq_getElem hi]
    simp only
    rw [lcs_snoc2]
    cases bt[i]? with
    | none => simp; exact ih
    | some p => have := lcs_snoc3 (ltp p) (a.take i) (mixI a bt i); simp; omega
theorem mixI_all (a : List ByteArray) (bt : List Int) : lcs a (mixI a bt a.length) = a.length := by
  have h1 := mixI_lcs a bt a.length (Nat.le_refl _)
  have h2 := lcs_le_left a (mixI a bt a.length)
  rw [List.take_length] at h1
  omega

/-- One text out of one byte. -/
theorem one_text {H : Hp} {b : Nat} {n : Nat} {x : Int} {F : ByteArray → Prop} (hr : rd H b 0 = some (.int .u8 x)) (hx : x = n) (hn : n < 256) (hF : F ⟨⟨[UInt8.ofNat n]⟩⟩) : BTS H (some ⟨b, 0, Option.none⟩) 1 F := by
  refine ⟨[UInt8.ofNat n], rfl, ?_, hF⟩
  intro j y hj
  match j, hj with
  | 0, hj =>
    simp only [List.getElem?_cons_zero, Option.some.injEq] at hj; subst hj
    rw [hr, UInt8.toNat_ofNat_of_lt' (by show _ < 256; omega), hx]

theorem parts_rest {H Hx : Hp} {ap bp cp : Option Addr} {al ac bl bcc cl cc : Nat} {a b : List ByteArray} {x : ByteArray} (ha : Sl Value.string Hx ap al ac a) (hb : Sl Value.string Hx bp bl bcc b) (hc : Sl Value.string Hx cp cl cc (a ++ [x])) (hle : Le H Hx)
    (la : a.length ≤ 40) (lb : b.length ≤ 80) (hab : lcs a b = a.length) : centolaw11_MatchParts.k3 (fun r H' => r = true ∧ Le H H') bcc bl bp ac al ap cp cl cc Hx := by
  have tk := V_take (a := a) (b := b) (by omega) (by omega)
  have tc := V_take (a := a ++ [x]) (b := b) (by simp; omega) (by omega)
  have hs := lcs_snoc1 x a b
  have hal := ha.len
  refine match_Length.c hc hb fun H1 le1 => match_Length.c (ha.le le1) (hb.le le1) fun H2 le2 => ?_
  rw [tc.1, tk.1, tk.2]
  have l12 := le1.trans le2
  refine chk (by omega) (match_Longest.c (ha.le l12) (ha.le l12) fun p l c r H3 g s le3 => ?_)
  rw [tk.1] at g
  have hg : Gr a a 0 0 (diag 0 0 a.length) := Gr.diag _ _ _ (fun j hj => ⟨by omega, by omega, rfl⟩) (fun j hj => by
    unfold V
    have := lcs_self_app (a.drop (0 + j)) []
    rw [List.append_nil] at this
    rw [this]; simp)
  obtain rfl := g.uniq hg
  have hl : l = a.length := by rw [s.len]; simp [diag]
  have l13 := l12.trans le3
  refine ⟨fun i H' => ∃ i' : Nat, i = i' ∧ i' ≤ l ∧ H3 = H', fun i _ => (l - i).toNat, ⟨0, rfl, by omega, rfl⟩, ?_⟩
  rintro i _ ⟨i, rfl, hi, rfl⟩
  refine bcd (fun h => ?_) (fun h => ?_)
  · refine snP s (by omega) (by omega) fun hj => ?_
    have e : (diag 0 0 a.length)[((i : Int)).toNat] = ((i : Int), (i : Int)) := by simp [diag]
    rw [e]
    refine bcn (fun h => by simp at h) (fun _ => chk (by omega) ⟨⟨i + 1, by omega, by omega, rfl⟩, by first | omega | (dsimp only; omega)⟩)
  · refine match_Length.c (ha.le l13) (hb.le l13) fun H4 le4 => ?_
    rw [tk.1, tk.2, hab]
    refine bcd (fun _ => ?_) (fun h => absurd (by omega) h)
    refine bcd (fun _ => ?_) (fun h => absurd (by omega) h)
    refine bcd (fun _ => ?_) (fun h => absurd (by omega) h)
    refine bcd (fun _ => ?_) (fun h => absurd (by omega) h)
    refine match_Length.c (ha.le (l13.trans le4)) (Sl.nil (f := Value.string)) fun H5 le5 => ?_
    rw [show List.take 200 ([] : List ByteArray) = [] from rfl, lcs_nil]
    exact ⟨rfl, ((hle.trans l13).trans le4).trans le5⟩

theorem matchParts_law {xp bp : Option Addr} {xl xc bl bcc : Nat} {x bt : List Int} {more : Int} {H : Hp} (hx : Sl (Value.int .u8) H xp xl xc x) (bx : ∀ n ∈ x, (Lit.int .u8 n).wf = true) (hbt : Sl (Value.int .u8) H bp bl bcc bt) (bb : ∀ n ∈ bt, (Lit.int .u8 n).wf = true)
    (wm : (Lit.int .u8 more).wf = true) : centolaw11_MatchParts.C xp xl xc bp bl bcc more H fun r H' => r = true ∧ Le H H' := by
  apply centolaw11_MatchParts.of
  have bm := wf_u8 wm
  have e1 := hx.len
  have e2 := hbt.len
  refine centolaw11_known.c fun H1 le1 => ?_
  refine bcn (fun h => by cases h) (fun _ => bcd (fun _ => ⟨rfl, le1⟩) fun h1 => bcd (fun _ => ⟨rfl, le1⟩) fun h2 => ?_)
  refine centolaw11_texts.b (hx.le le1) (fun n hn => wf_u8 (bx n hn)) (by omega) fun ap al ac H2 ha le2 => ?_
  have sa := ha.sl
  have hal := sa.len
  generalize hA : x.map ltr = a at *
  have la : a.length ≤ 40 := by rw [← hA]; simp; omega
  have le12 := le1.trans le2
  have sbt := hbt.le le12
  refine ⟨fun p l c i H' => ∃ d : Nat, i = d ∧ d ≤ a.length ∧ Le H2 H' ∧ Buf 1 H2 H' p l c ((mixI a bt d).map Value.string), fun _ _ _ i _ => (al - i).toNat, ⟨0, rfl, by omega, Le.refl _, by simpa [mixI] using Buf.none⟩, ?_⟩
  rintro p l c i H3 ⟨d, rfl, hd, le3, hB⟩
  have hml := mixI_len a bt d
  have hlen : l = (mixI a bt d).length := by have := hB.1; simpa using this
  refine bcd (fun h => ?_) (fun h => ?_)
  · have hda : d < a.length := by omega
    have k2 : ∀ (q : Option Addr) (m c' : Nat) (H4 : Hp), m ≤ 2 * d + 1 → Le H2 H4 → Buf 1 H2 H4 q m c' ((mixI a bt d ++ (match bt[d]? with | some p => [ltp p] | none => [])).map Value.string) →
        centolaw11_MatchParts.k2 H3 (fun p l c i H' => ∃ d : Nat, i = d ∧ d ≤ a.length ∧ Le H2 H' ∧ Buf 1 H2 H' p l c ((mixI a bt d).map Value.string)) c l p d (fun _ _ _ i _ => (al - i).toNat) al ap q m c' H4 := by
      intro q m c' H4 hm le4 hB4
      refine slS (sa.le le4) (g := id) (fun _ => rfl) (by omega) (by omega) fun hi' => ?_
      refine Buf.app1 hB4 le4 rfl (by decide) rfl (by decide) rfl rfl (by simp [te_string]; omega) fun p' c'' H5 hB5 hA5 _ => ?_
      refine chk (by omega) ⟨⟨d + 1, by omega, by omega, hA5, ?_⟩, by first | omega | (dsimp only; omega)⟩
      rw [mixI, List.getElem?_eq_getElem hda, List.map_append]
      exact hB5
    refine bcd (fun hb => ?_) (fun hb => ?_)
    · refine slI (sbt.le le3) (g := id) (fun _ => rfl) (by omega) hb fun hj => ⟨by decide, ?_⟩
      have hj' : d < bt.length := hj
      have bj := wf_u8 (bb _ (List.getElem_mem hj'))
      have hge : bt[d]? = some bt[d] := List.getElem?_eq_getElem hj'
      rw [hge] at k2
      simp only [id, Int.toNat_natCast]
      generalize bt[d] = z at *
      rw [Int.tmod_eq_emod_of_nonneg bj.1]
      refine chkU8 (by omega) ?_
      intro b hb0
      refine one_text (n := 112 + z.toNat % 4) (by rw [rd_upd_self]; rfl) (by omega) (by omega) ?_
      refine Buf.app1 (hB.le (.upd hb0)) (le3.trans (.upd hb0)) rfl (by decide) rfl (by decide) rfl rfl (by simp [te_string]; omega) fun p' c' H' hB' hA' _ => ?_
      exact k2 p' (l + 1) c' H' (by omega) hA' (by rw [List.map_append]; exact hB')
    · have hge : bt[d]? = none := List.getElem?_eq_none (by omega)
      rw [hge] at k2
      exact k2 p l c H3 (by omega) le3 (by simpa using hB)
  · obtain rfl : d = a.length := by omega
    have sb := hB.sl
    have sa3 := sa.le le3
    have ha3 := ha.le le3
    have hfin := le12.trans le3
    have hmx := mixI_all a bt
    rw [Int.tmod_eq_emod_of_nonneg bm.1]
    have ltrm : ltr more = ⟨⟨[UInt8.ofNat (97 + more.toNat % 4)]⟩⟩ := rfl
    have hmn : (97 + more % 4 : Int) = ((97 + more.toNat % 4 : Nat) : Int) := by omega
    -- a's cells, read from its row
    have src : ∀ {H4 : Hp}, Le H3 H4 → ∀ G : Nat → List Value → Prop, G al (a.map Value.string) → srcCells H4 1 (.slice ap al ac) G := by
      intro H4 le4 G hG
      by_cases hne : 0 < a.length
      · exact sl_src (sa3.le le4) hne G hG
      · have h0 : a = [] := List.length_eq_zero_iff.1 (by omega)
        subst h0
        rcases ha.2 with ⟨rfl, rfl, rfl⟩ | ⟨b0, rest, rfl, _, _, _, _⟩
        · exact hG
        · exact ⟨[], ⟨by simp at hal; rw [hal]; rfl, fun i v e => by simp at e⟩, hG⟩
    -- append(nil, a..)
    have app0 : ∀ {H4 : Hp} {F : Option Addr → Nat → Nat → Hp → Prop}, Le H3 H4 → (∀ q c H5, Buf 1 H4 H5 q al c (a.map Value.string) → Le H4 H5 → F q al c H5) → APP H4 te_string Option.none 0 0 (.slice ap al ac) F := by
      intro H4 F le4 hF
      refine Buf.appN (s := 1) (A := H4) (cells := []) (n := al) (new := a.map Value.string) Buf.none rfl (by decide) rfl (by decide) (by simp [hal]) (by simp [isCell]) (by simp [te_string]; omega) (Le.refl _) (fun G hG => src le4 G hG) fun q c H5 hB5 hle5 _ => ?_
      rw [Nat.zero_add] at hB5 ⊢
      exact hF q c H5 (by simpa using hB5) hle5
    -- the end, wherever the new text was made
    have fin : ∀ {A H4 : Hp} {q : Option Addr} {m c : Nat}, Le H3 A → Le A H4 → Buf 1 A H4 q m c ((a ++ [ltr more]).map Value.string) → centolaw11_MatchParts.k3 (fun r H' => r = true ∧ Le H H') c l p ac al ap q m c H4 → centolaw11_MatchParts.k3 (fun r H' => r = true ∧ Le H H') c l p ac al ap q m c H4 := fun _ _ _ h => h
    have rest : ∀ {A H4 : Hp} {q : Option Addr} {m c' : Nat}, Le H3 A → Le A H4 → Buf 1 A H4 q m c' ((a ++ [ltr more]).map Value.string) → centolaw11_MatchParts.k3 (fun r H' => r = true ∧ Le H H') c l p ac al ap q m c' H4 := by
      intro A H4 q m c' l1 l2 hB4
      exact parts_rest (sa3.le (l1.trans l2)) (sb.le (l1.trans l2)) hB4.sl (hfin.trans (l1.trans l2)) la (by omega) hmx
    have app1 : ∀ {A H4 : Hp} {q : Option Addr} {c' : Nat} {F : Option Addr → Nat → Nat → Hp → Prop}, Le H3 A → Le A H4 → Buf 1 A H4 q al c' (a.map Value.string) →
        (∀ q' c'' H5, Buf 1 A H5 q' (al + 1) c'' ((a ++ [ltr more]).map Value.string) → Le A H5 → F q' (al + 1) c'' H5) →
        NEW H4 [.string ⟨⟨[UInt8.ofNat (97 + more.toNat % 4)]⟩⟩] fun b H5 => APP H5 te_string q al c' (.slice (some ⟨b, 0, Option.none⟩) 1 1) F := by
      intro A H4 q c' F l1 l2 hB4 hF
      refine Buf.app1 hB4 l2 rfl (by decide) rfl (by decide) rfl rfl (by simp [te_string]; omega) fun q' c'' H5 hB5 hle5 _ => ?_
      exact hF q' c'' H5 (by rw [List.map_append]; exact hB5) hle5
    refine ⟨by decide, chkU8 (by omega) ⟨?_, ?_⟩⟩
    · refine app0 (Le.refl _) fun q c4 H4 hB4 le4 => ?_
      intro b hb0
      refine one_text (n := 97 + more.toNat % 4) (by rw [rd_upd_self]; rfl) hmn (by omega) ?_
      exact app1 (Le.refl _) (le4.trans (.upd hb0)) (hB4.le (.upd hb0)) fun q' c'' H5 hB5 le5 => rest (Le.refl _) le5 hB5
    · intro b hb0
      have leb : Le H3 (upd H3 b [.int .u8 (97 + more % 4)]) := .upd hb0
      refine ⟨?_, ?_⟩
      · refine app0 leb fun q c4 H4 hB4 le4 => ?_
        refine one_text (n := 97 + more.toNat % 4) (le4.rd (by rw [rd_upd_self]; rfl)) hmn (by omega) ?_
        exact app1 leb le4 hB4 fun q' c'' H5 hB5 le5 => rest leb le5 hB5
      · refine one_text (n := 97 + more.toNat % 4) (by rw [rd_upd_self]; rfl) hmn (by omega) ⟨?_, ?_⟩
        · refine app0 leb fun q c4 H4 hB4 le4 => ?_
          exact app1 leb le4 hB4 fun q' c'' H5 hB5 le5 => rest leb le5 hB5
        · intro b2 hb2
          have le2b : Le H3 (upd (upd H3 b [.int .u8 (97 + more % 4)]) b2 [.string ⟨⟨[UInt8.ofNat (97 + more.toNat % 4)]⟩⟩]) := leb.trans (.upd hb2)
          refine app0 le2b fun q c4 H4 hB4 le4 => ?_
          refine Buf.appN (n := 1) (new := [.string ⟨⟨[UInt8.ofNat (97 + more.toNat % 4)]⟩⟩]) hB4 rfl (by decide) rfl (by decide) rfl rfl (by simp [te_string]; omega) le4 (fun G hG => ⟨_, ⟨rfl, fun i v e => ?_⟩, hG⟩) fun q' c'' H5 hB5 le5 _ => rest le2b le5 (by rw [List.map_append]; exact hB5)
          match i, e with
          | 0, e => simp only [List.getElem?_cons_zero, Option.some.injEq] at e; subst e; exact le4.rd (by rw [rd_upd_self]; rfl)

set_option maxRecDepth 100000 in
theorem matchParts_lifted (os : Os) (started : os.Started) (H : Type) (enc : TypeId × Value → H) :
    ReturnsInHanded {} Try.checked os 5 .any (Rows.matchPartsSpec.pre6 enc Try.prog Try.f5 Rows.matchPartsRow.domain false) (Rows.matchPartsSpec.post enc Try.prog Try.f5 false true false false) := by
  refine returnsInHanded_of_change (C := Try.checked) Try.own started (by kernel_rfl) Try.func5
    (ChangeSpec.witness6 (enc := enc) (C := Try.checked) false ⟨#[], #[.slice Option.none 0 0, .slice Option.none 0 0, .int .u8 0], []⟩ 8 (by kernel_rfl) (by kernel_rfl) (by kernel_rfl) (by kernel_rfl)) ?_
  intro W base args ds gs before hval0 hW hcnd _
  have hval : ∀ (j : Nat) t v, Try.f5.params[j]? = some t → args[j]? = some v → Value.okWide Try.prog W .any base t v := hval0
  have hW' := hW
  obtain ⟨p, q, hA0, hV, rfl, hfz, hnd⟩ := hW
  have hA : DataW.TrodAll enc Try.prog W 0 (fun _ => true) true Try.f5.params.toList args.toList ds p := hA0
  rw [Try.params5] at hA hval
  obtain ⟨v0, v1, v2, d0, d1, d2, p0, p1, p2, rfl, rfl, rfl, h0, h1, h2⟩ := trodAll_three hA
  obtain ⟨q0, l0, c0, x0, rfl, s0, _, w0⟩ := open_slI Try.underlying22 Try.underlying5 (by kernel_rfl) (hval 0 22 v0 rfl rfl) h0 (fun x hx => by simp [hx]) hfz
  obtain ⟨q1, l1, c1, x1, rfl, s1, _, w1⟩ := open_slI Try.underlying22 Try.underlying5 (by kernel_rfl) (hval 1 22 v1 rfl rfl) h1 (fun x hx => by simp [hx]) hfz
  obtain ⟨x2, rfl, rfl, rfl, w2⟩ := open_int Try.underlying5 (hval 2 5 v2 rfl rfl) h2
  refine (calls_true (CallH.true (matchParts_law s0 w0 s1 w1 w2))).mono fun e W' ⟨he, hk⟩ => ?_
  subst he
  exact ⟨_, rfl, post_true Try.laidOut hW' (by kernel_rfl) rfl rfl rfl Try.underlying4 hk⟩

theorem matchParts_holds : Rows.MatchPartsSaid :=
  OpenClaim.holds_of_wide 5 Try.f5 rfl rfl rfl rfl rfl rfl rfl ⟨rfl, rfl, rfl, rfl, rfl⟩ rfl rfl rfl rfl rfl (by kernel_rfl) Try.func5 (by kernel_rfl)
    (of_decide_eq_true (by kernel_rfl)) (by unfold Func.isWrapper; first | (rw [if_pos (by decide +kernel)]; kernel_rfl) | (rw [if_neg (by decide +kernel)]; exact ⟨rfl, rfl⟩))
    (fun os started H enc _ => matchParts_lifted os started H enc)
end Go.Proofs.Ytimgnhleaekmhaa
