/- For every input MatchApart returns true, and what came in reads as it did: no condition. -/
import Derived.Test.YtimgnhleaekmhaaM9
namespace Go.Proofs.Ytimgnhleaekmhaa
open Go.V
open Go.ChangeShapes Go.WideShapes Go.ChangeAt Go.RowKit
def letter (i : Nat) : ByteArray := bs [UInt8.ofNat (97 + i)]
theorem letter_inj {i j : Nat} (hi : i < 20) (hj : j < 20) (h : letter i = letter j) : i = j := by
  have : (UInt8.ofNat (97 + i)).toNat = (UInt8.ofNat (97 + j)).toNat := by
    have h' : UInt8.ofNat (97 + i) = UInt8.ofNat (97 + j) := by simpa [letter, bs] using h
    rw [h']
  rw [UInt8.toNat_ofNat_of_lt' (by show _ < 256; omega), UInt8.toNat_ofNat_of_lt' (by show _ < 256; omega)] at this
  omega
theorem letter_ne {i : Nat} {c : UInt8} (hi : i < 20) (hc : c.toNat < 97) : letter i ≠ bs [c] := by
  intro h
  have h' : UInt8.ofNat (97 + i) = c := by simpa [letter, bs] using h
  have : (UInt8.ofNat (97 + i)).toNat = c.toNat := by rw [h']
  rw [UInt8.toNat_ofNat_of_lt' (by show _ < 256; omega)] at this
  omega
theorem sl_src {H : Hp} {p : Option Addr} {l c : Nat} {xs : List ByteArray} (h : Sl Value.string H p l c xs) (hne : 0 < xs.length) (G : Nat → List Value → Prop) (hG : G l (xs.map Value.string)) : srcCells H 1 (.slice p l c) G := by
  obtain ⟨b, o, hp, hr⟩ := h.at hne
  subst hp
  have hl := h.len
  refine ⟨xs.map Value.string, ⟨by simp [hl], fun i v e => ?_⟩, hG⟩
  have hi : i < xs.length := by
    rcases Nat.lt_or_ge i xs.length with h | h
    · exact h
    · rw [List.getElem?_eq_none (by simpa using h)] at e; cases e
  rw [hr i hi]
  simpa [hi] using e

section
variable {a b r : List ByteArray}
theorem lcs_self_app : ∀ a r : List ByteArray, lcs a (a ++ r) = a.length
  | [], _ => by simp [lcs]
  | x :: a, r => by rw [List.cons_append, lcs, if_pos rfl, lcs_self_app a r]; rfl
theorem lcs_app : ∀ d : List ByteArray, lcs a b ≤ lcs a (d ++ b)
  | [] => Nat.le_refl _
  | x :: d => Nat.le_trans (lcs_app d) (lcs_right a (d ++ b) x)
theorem lcs_apart : ∀ a b : List ByteArray, (∀ u ∈ a, ∀ v ∈ b, u ≠ v) → lcs a b = 0
  | [], _, _ => by simp [lcs]
  | _ :: _, [], _ => by simp [lcs]
  | x :: a, y :: b, h => by
    rw [lcs, if_neg (h x (by simp) y (by simp)), lcs_apart a (y :: b) (fun u hu v hv => h u (by simp [hu]) v hv), lcs_apart (x :: a) b (fun u hu v hv => h u hu v (by simp [hv]))]
    rfl
termination_by a b => a.length + b.length
end

def letters (x : Nat) : List ByteArray := (List.range x).map letter

theorem apart_gr {x k m : Nat} (hx : 0 < x) (hx20 : x ≤ 20) : Gr (letters x) (List.replicate k (bs [45]) ++ letters x ++ List.replicate m (bs [43])) 0 0 (diag 0 k x) := by
  have hb : ∀ i, (List.replicate k (bs [45]) ++ letters x ++ List.replicate m (bs [43])).drop (k + i) = (letters x).drop i ++ (List.replicate m (bs [43])).drop (i - x) := fun i => by
    rw [List.append_assoc, List.drop_append, List.length_replicate, List.drop_replicate, show k - (k + i) = 0 by omega, List.replicate_zero, List.nil_append, List.drop_append, show k + i - k = i by omega]
    simp [letters]
  have hV : ∀ i, i ≤ x → V (letters x) (List.replicate k (bs [45]) ++ letters x ++ List.replicate m (bs [43])) i (k + i) = x - i := fun i hi => by
    unfold V
    rw [hb, lcs_self_app]
    simp [letters]
  have h00 : V (letters x) (List.replicate k (bs [45]) ++ letters x ++ List.replicate m (bs [43])) 0 0 = x := by
    have h1 := @V_le (letters x) (List.replicate k (bs [45]) ++ letters x ++ List.replicate m (bs [43])) 0 0
    have h2 := @V_mono (letters x) (List.replicate k (bs [45]) ++ letters x ++ List.replicate m (bs [43])) 0 0 0 (k + 0) (by omega) (by omega)
    have h3 := hV 0 (by omega)
    have h4 : (letters x).length = x := by simp [letters]
    omega
  have hat : ∀ j, j < x → 0 + j < (letters x).length ∧ k + j < (List.replicate k (bs [45]) ++ letters x ++ List.replicate m (bs [43])).length ∧ (letters x)[0 + j]? = (List.replicate k (bs [45]) ++ letters x ++ List.replicate m (bs [43]))[k + j]? := fun j hj => by
    refine ⟨by simp [letters]; omega, by simp [letters]; omega, ?_⟩
    rw [List.append_assoc, List.getElem?_append_right (by simp), List.length_replicate, show k + j - k = j by omega, List.getElem?_append_left (by simp [letters]; omega), Nat.zero_add]
  have hd : Gr (letters x) (List.replicate k (bs [45]) ++ letters x ++ List.replicate m (bs [43])) 0 k (diag 0 k x) := Gr.diag x 0 k hat (fun j hj => by rw [Nat.zero_add]; exact hV j hj)
  obtain ⟨x, rfl⟩ : ∃ z, x = z + 1 := ⟨x - 1, by omega⟩
  rw [diag_succ] at hd ⊢
  have hV0 := hV 0 (by omega)
  generalize hL : List.replicate k (bs [45]) ++ letters (x + 1) ++ List.replicate m (bs [43]) = L at *
  cases hd with
  | cons h1 h2 h3 h4 h5 =>
    have hV0' : V (letters (x + 1)) L 0 k = x + 1 := hV0
    rw [hV0'] at h3 h4
    refine .cons (by omega) (by omega) (by rw [h00]; exact h3) (fun p' q' g1 g2 g3 => ?_) h5
    rintro ⟨m1, m2, m3, m4⟩
    obtain rfl : p' = 0 := by omega
    have hq : q' < k := by omega
    rw [← hL, List.append_assoc, List.getElem?_append_left (by simp; omega), List.getElem?_replicate, if_pos hq] at m3
    have : (letters (x + 1))[0]? = some (letter 0) := by simp [letters, List.range_succ_eq_map]
    rw [this] at m3
    exact letter_ne (by decide) (by decide) (Option.some.inj m3)

theorem matchApart_law {n m at' : Int} {H : Hp} (wn : (Lit.int .u8 n).wf = true) (wm : (Lit.int .u8 m).wf = true) (wa : (Lit.int .u8 at').wf = true) : centolaw11_MatchApart.C n m at' H fun r H' => r = true ∧ Le H H' := by
  apply centolaw11_MatchApart.of
  have bn := wf_u8 wn
  have bm := wf_u8 wm
  have ba := wf_u8 wa
  refine centolaw11_known.c fun H1 le1 => ?_
  refine bcn (fun h => by cases h) (fun _ => ?_)
  rw [Int.tmod_eq_emod_of_nonneg bn.1, Int.tmod_eq_emod_of_nonneg bm.1]
  refine ⟨by decide, chk (by omega) (chk (by omega) ⟨by decide, chk (by omega) ?_⟩)⟩
  obtain ⟨x, hx⟩ : ∃ x : Nat, n % 20 + 1 = x := ⟨(n % 20 + 1).toNat, by omega⟩
  obtain ⟨y, hy⟩ : ∃ y : Nat, m % 20 = y := ⟨(m % 20).toNat, by omega⟩
  rw [hx, hy]
  have hx20 : x ≤ 20 := by omega
  have hx0 : 0 < x := by omega
  have hy20 : y < 20 := by omega
  refine ⟨fun p l c i H' => ∃ d : Nat, i = d ∧ d ≤ x ∧ Le H1 H' ∧ Buf 1 H1 H' p l c ((letters d).map Value.string), fun _ _ _ i _ => (x - i).toNat, ⟨0, rfl, by omega, Le.refl _, by simpa [letters] using Buf.none⟩, ?_⟩
  rintro ap al ac i H2 ⟨d, rfl, hd, le2, ha⟩
  have hlen : al = d := by have := ha.1; simpa [letters] using this
  refine bcd (fun h => ?_) (fun h => ?_)
  · rw [wrap_in .u8 (e := (d : Int)) ⟨by show (0 : Int) ≤ d; omega, by show (d : Int) ≤ 255; omega⟩]
    refine chkU8 (by omega) ?_
    intro b hb0
    refine ⟨[UInt8.ofNat (97 + d)], rfl, ?_, ?_⟩
    · intro j z hj
      match j, hj with
      | 0, hj =>
        simp only [List.getElem?_cons_zero, Option.some.injEq] at hj; subst hj
        rw [rd_upd_self, UInt8.toNat_ofNat_of_lt' (by show _ < 256; omega), show (97 + d : Int) = ((97 + d : Nat) : Int) by omega]; rfl
    · refine Buf.app1 (ha.le (.upd hb0)) (le2.trans (.upd hb0)) rfl (by decide) rfl (by decide) rfl rfl (by simp [te_string]; omega) fun p' c' H' hB hA _ => ?_
      refine chk (by omega) ⟨⟨d + 1, by omega, by omega, hA, ?_⟩, by first | omega | (dsimp only; omega)⟩
      have : letters (d + 1) = letters d ++ [letter d] := by simp [letters, List.range_succ]
      rw [this]
      simpa [letter, bs] using hB
  · obtain rfl : d = x := by omega
    have rest : ∀ k : Nat, k ≤ y → centolaw11_MatchApart.k1 (fun r H' => r = true ∧ Le H H') ac al ap d y k H2 := by
      intro k hk
      refine strs_loop (ys := []) (Buf.none (A := H2)) (Le.refl _) (by omega) (by omega) (by simp) (by omega) fun bp bl bc' H3 hb le3 => ?_
      have e1 : ((k : Int) - 0).toNat = k := by omega
      rw [e1, List.nil_append] at hb
      have sa := (ha.sl.le le3)
      have hbl : bl = k := by have := hb.1; simpa using this
      have hll : (letters d).length = d := by simp [letters]
      refine hb.appN (n := al) (new := (letters d).map Value.string) rfl (by decide) rfl (by decide) (by simp [letters]; omega) (by simp [isCell]) (by simp [te_string]; omega) le3 (fun G hG => sl_src sa (by omega) G hG) fun p' c' H4 hB4 le4 _ => ?_
      rw [← List.map_append] at hB4
      refine strs_loop hB4 le4 (by omega) (by omega) (by simp [hll]; omega) (by omega) fun bp' bl' bcc H5 hB5 le5 => ?_
      have e2 : ((y : Int) - k).toNat = y - k := by omega
      rw [e2] at hB5
      have sa5 := ha.sl.le le5
      have sb5 := hB5.sl
      have tk := V_take (a := letters d) (b := List.replicate k (bs [45]) ++ letters d ++ List.replicate (y - k) (bs [43])) (by omega) (by simp [hll]; omega)
      refine match_Longest.c sa5 sb5 fun p l c r H6 g s le6 => ?_
      rw [tk.1, tk.2] at g
      obtain rfl := g.uniq (apart_gr (m := y - k) hx0 hx20)
      have hl : l = d := by rw [s.len]; simp [diag]
      refine bcd (fun h => absurd (by omega) h) (fun _ => ?_)
      intro z hz
      have le7 := le6.trans (Le.upd (c := [Value.string (bs [45]), Value.string (bs [43])]) hz)
      have sz : Sl Value.string (upd H6 z ([bs [45], bs [43]].map Value.string)) (some ⟨z, 0, Option.none⟩) 2 2 [bs [45], bs [43]] := sl_str rfl
      refine match_Length.c (sa5.le le7) sz fun H8 le8 => ?_
      rw [tk.1, show [bs [45], bs [43]].take 200 = [bs [45], bs [43]] from rfl, lcs_apart (letters d) [bs [45], bs [43]] (fun u hu v hv => by
        obtain ⟨i, hi, rfl⟩ := List.mem_map.1 hu
        have hi := List.mem_range.1 hi
        simp only [List.mem_cons, List.not_mem_nil, or_false] at hv
        rcases hv with rfl | rfl
        · exact letter_ne (by omega) (by decide)
        · exact letter_ne (by omega) (by decide))]
      refine bcd (fun h => absurd rfl h) (fun _ => ?_)
      have le68 := ((Le.upd (c := [Value.string (bs [45]), Value.string (bs [43])]) hz).trans le8)
      have fin := ((((le1.trans le2).trans le5).trans le6)).trans le68
      have s8 := s.le le68
      refine ⟨fun i H' => ∃ i' : Nat, i = i' ∧ i' ≤ d ∧ H8 = H', fun i _ => (d - i).toNat, ⟨0, rfl, by omega, rfl⟩, ?_⟩
      rintro i _ ⟨i, rfl, hi, rfl⟩
      refine bcd (fun h => ?_) (fun h => ⟨rfl, fin⟩)
      refine snP s8 (by omega) (by omega) fun hj => chk (by omega) ?_
      have e : (diag 0 k d)[((i : Int)).toNat] = ((i : Int), ((k + i : Nat) : Int)) := by simp [diag]
      rw [e]
      refine bcn (fun h => by simp at h) (fun _ => chk (by omega) ⟨⟨i + 1, by omega, by omega, rfl⟩, by first | omega | (dsimp only; omega)⟩)
    refine bcd (fun h => chk (by omega) ⟨by omega, ?_⟩) (fun h => ?_)
    · rw [Int.tmod_eq_emod_of_nonneg ba.1]
      obtain ⟨k, hk⟩ : ∃ k : Nat, at' % (y : Int) = k := ⟨(at' % y).toNat, by have := Int.emod_nonneg at' (b := (y : Int)) (by omega); omega⟩
      have := Int.emod_lt_of_pos at' (b := (y : Int)) (by omega)
      rw [hk]
      exact rest k (by omega)
    · exact rest 0 (by omega)

set_option maxRecDepth 100000 in
theorem matchApart_lifted (os : Os) (started : os.Started) (H : Type) (enc : TypeId × Value → H) :
    ReturnsInHanded {} Try.checked os 6 .any (Rows.matchApartSpec.pre6 enc Try.prog Try.f6 Rows.matchApartRow.domain false) (Rows.matchApartSpec.post enc Try.prog Try.f6 false true false false) := by
  refine returnsInHanded_of_change (C := Try.checked) Try.own started (by kernel_rfl) Try.func6
    (ChangeSpec.witness6 (enc := enc) (C := Try.checked) false ⟨#[], #[.int .u8 0, .int .u8 0, .int .u8 0], []⟩ 8 (by kernel_rfl) (by kernel_rfl) (by kernel_rfl) (by kernel_rfl)) ?_
  intro W base args ds gs before hval0 hW hcnd _
  have hval : ∀ (j : Nat) t v, Try.f6.params[j]? = some t → args[j]? = some v → Value.okWide Try.prog W .any base t v := hval0
  have hW' := hW
  obtain ⟨p, q, hA0, hV, rfl, hfz, hnd⟩ := hW
  have hA : DataW.TrodAll enc Try.prog W 0 (fun _ => true) true Try.f6.params.toList args.toList ds p := hA0
  rw [Try.params6] at hA hval
  obtain ⟨v0, v1, v2, d0, d1, d2, p0, p1, p2, rfl, rfl, rfl, h0, h1, h2⟩ := trodAll_three hA
  obtain ⟨x0, rfl, rfl, rfl, w0⟩ := open_int Try.underlying5 (hval 0 5 v0 rfl rfl) h0
  obtain ⟨x1, rfl, rfl, rfl, w1⟩ := open_int Try.underlying5 (hval 1 5 v1 rfl rfl) h1
  obtain ⟨x2, rfl, rfl, rfl, w2⟩ := open_int Try.underlying5 (hval 2 5 v2 rfl rfl) h2
  refine (calls_true (CallH.true (matchApart_law w0 w1 w2))).mono fun e W' ⟨he, hk⟩ => ?_
  subst he
  exact ⟨_, rfl, post_true Try.laidOut hW' (by kernel_rfl) rfl rfl rfl Try.underlying4 hk⟩

theorem matchApart_holds : Rows.MatchApartSaid :=
  OpenClaim.holds_of_wide 6 Try.f6 rfl rfl rfl rfl rfl rfl rfl ⟨rfl, rfl, rfl, rfl, rfl⟩ rfl rfl rfl rfl rfl (by kernel_rfl) Try.func6 (by kernel_rfl)
    (of_decide_eq_true (by kernel_rfl)) (by unfold Func.isWrapper; first | (rw [if_pos (by decide +kernel)]; kernel_rfl) | (rw [if_neg (by decide +kernel)]; exact ⟨rfl, rfl⟩))
    (fun os started H enc _ => matchApart_lifted os started H enc)
end Go.Proofs.Ytimgnhleaekmhaa
