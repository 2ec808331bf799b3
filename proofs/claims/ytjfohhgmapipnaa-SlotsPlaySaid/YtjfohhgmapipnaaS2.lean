/- Contracts. -/
import Derived.Test.YtjfohhgmapipnaaS1
namespace Go.Proofs.Ytjfohhgmapipnaa
open Go.V
/-! ### Texts -/
abbrev BL := List UInt8
def L (s : ByteArray) : BL := s.data.toList
def mkB (l : BL) : ByteArray := ⟨⟨l⟩⟩
@[simp] theorem L_mk (l : BL) : L (mkB l) = l := rfl
@[simp] theorem mk_L (s : ByteArray) : mkB (L s) = s := rfl
theorem L_inj {a b : ByteArray} (h : L a = L b) : a = b := by rw [← mk_L a, ← mk_L b, h]
theorem L_size (s : ByteArray) : s.size = (L s).length := by cases s; rfl
@[simp] theorem L_bs (l : BL) : L (bs l) = l := rfl
theorem bs_mk (l : BL) : bs l = mkB l := rfl
theorem L_append (a b : ByteArray) : L (a ++ b) = L a ++ L b := by simp [L]
theorem L_extract (s : ByteArray) (j k : Nat) : L (s.extract j k) = ((L s).take k).drop j := by
  simp only [L]
  rw [ByteArray.data_extract]
  simp [List.drop_take]
theorem eq_iff_L {a b : ByteArray} : a = b ↔ L a = L b := ⟨fun h => h ▸ rfl, L_inj⟩

/-- A text's lines, a line's beginning in hand. -/
def linesA : BL → BL → List BL
  | acc, [] => if acc = [] then [] else [acc]
  | acc, b :: r => if b = 10 then (acc ++ [b]) :: linesA [] r else linesA (acc ++ [b]) r
def lines (s : BL) : List BL := linesA [] s
theorem linesA_app (acc l r : BL) (h : 10 ∉ l) : linesA acc (l ++ r) = linesA (acc ++ l) r := by
  induction l generalizing acc with
  | nil => simp
  | cons b l ih =>
    simp only [List.mem_cons, not_or] at h
    rw [List.cons_append, linesA, if_neg (fun e => h.1 e.symm), ih _ h.2]
    simp
theorem linesA_line (acc l r : BL) (h : 10 ∉ l) : linesA acc (l ++ 10 :: r) = (acc ++ l ++ [10]) :: lines r := by
  rw [linesA_app _ _ _ h, linesA, if_pos rfl]; rfl
theorem linesA_last (acc l : BL) (h : 10 ∉ l) : linesA acc l = if acc ++ l = [] then [] else [acc ++ l] := by
  have := linesA_app acc l [] h
  rw [List.append_nil] at this
  rw [this, linesA]

theorem indexByte_spec (l : BL) (x : UInt8) : (Lib.indexByte l x = -1 ∧ x ∉ l) ∨ ∃ i : Nat, Lib.indexByte l x = (i : Int) ∧ i < l.length ∧ x ∉ l.take i ∧ l = l.take i ++ x :: l.drop (i + 1) := by
  induction l with
  | nil => left; exact ⟨rfl, by simp⟩
  | cons b l ih =>
    unfold Lib.indexByte
    by_cases hb : b = x
    · subst hb
      right
      exact ⟨0, by simp, by simp, by simp, by simp⟩
    · have hb' : (b == x) = false := by simpa using hb
      rw [if_neg (by rw [hb']; simp)]
      rcases ih with ⟨h1, h2⟩ | ⟨i, h1, h2, h3, h4⟩
      · left
        rw [h1]
        exact ⟨by simp, by simp [h2, Ne.symm hb]⟩
      · right
        refine ⟨i + 1, ?_, by simp; omega, ?_, ?_⟩
        · rw [h1, if_neg (by simp)]; omega
        · simp [h3, Ne.symm hb]
        · simp only [List.take_succ_cons, List.cons_append, List.drop_succ_cons, ← h4]

theorem lines_cut {rest : BL} {i : Nat} (hn : 10 ∉ rest.take i) (hd : rest = rest.take i ++ 10 :: rest.drop (i + 1)) : lines rest = (rest.take i ++ [10]) :: lines (rest.drop (i + 1)) :=
  (congrArg lines hd).trans (linesA_line [] _ _ hn)
theorem take_cut {rest : BL} {i : Nat} (hi : i < rest.length) (hd : rest = rest.take i ++ 10 :: rest.drop (i + 1)) : rest.take (i + 1) = rest.take i ++ [10] := by
  have hx : (rest.take i ++ 10 :: rest.drop (i + 1))[i]? = some 10 := by
    rw [List.getElem?_append_right (by simp; omega)]
    simp [show min i rest.length = i by omega]
  rw [← hd] at hx
  rw [List.take_add_one, hx]; rfl

/-! ### Package strings -/
theorem internal_bytealg_IndexByteString.c {s : ByteArray} {x : UInt8} {H : Hp} {K : Int → Hp → Prop} (hK : K (Lib.indexByte (L s) x) H) : internal_bytealg_IndexByteString.C s (x.toNat : Nat) H K :=
  callX (fn := (prog.funcs[internal_bytealg_IndexByteString.num]?).getD default) (e := Extern.BytealgIndexByte.indexByte) (by kernel_rfl) (by kernel_rfl) (by kernel_rfl) (by kernel_rfl) (by kernel_rfl) fun w hw => by
    refine ⟨_, w, Lib.run_indexByteString s _ w, ?_, Ge.refl _ _⟩
    subst hw
    have e : ((x.toNat : Nat) : Int).toNat.toUInt8 = x := by simp
    rw [e]
    exact liftI_i hK
theorem strings_IndexByte.c {s : ByteArray} {x : UInt8} {H : Hp} {K : Int → Hp → Prop} (hK : K (Lib.indexByte (L s) x) H) : strings_IndexByte.C s (x.toNat : Nat) H K := by
  apply strings_IndexByte.of
  apply internal_stringslite_IndexByte.of
  exact internal_bytealg_IndexByteString.c hK
/-- strings.Index at one byte. -/
theorem strings_Index.c {s : ByteArray} {x : UInt8} {H : Hp} {K : Int → Hp → Prop} (hK : K (Lib.indexByte (L s) x) H) : strings_Index.C s (bs [x]) H K := by
  apply strings_Index.of
  apply internal_stringslite_Index.of
  have h1 : (bs [x]).size = 1 := rfl
  have h2 : (bs [x]).data.toList.getD 0 0 = x := rfl
  have key : ∀ t, t = false → internal_stringslite_Index.k1 K s (bs [x]) t H := fun t ht => by
    subst ht
    unfold internal_stringslite_Index.k1
    refine bcF ?_
    rw [h1]
    refine bcd (fun _ => ?_) (fun h => absurd rfl h)
    refine idxN 0 rfl (by decide) ?_
    apply internal_stringslite_IndexByte.of
    rw [h2]
    exact internal_bytealg_IndexByteString.c hK
  refine bcd (fun h => by rw [h1] at h; cases h) (fun _ => ?_)
  by_cases hs : bs [x] = s
  · -- the text is that byte
    subst hs
    unfold internal_stringslite_Index.k1
    rw [decide_eq_true rfl]
    refine bcT ?_
    have : Lib.indexByte (L (bs [x])) x = 0 := by simp [Lib.indexByte]
    rw [this] at hK
    exact hK
  · exact key _ (decide_eq_false hs)

/-- Goes through a text's lines; J: what stands while these are done. -/
theorem strings_Lines_1.c {bc' : Nat} {s : ByteArray} {H : Hp} {G : ByteArray → Hp → (Al → Hp → Prop) → Prop} {K : Al → Hp → Prop} (J : List BL → Hp → Prop) (h0 : rd H bc' 0 = some (.string s)) (hs : s.size ≤ 4611686018427387904) (hJ : J [] H)
    (hw : ∀ done H v, J done H → J done (wr H bc' 0 (.string v)))
    (hG : ∀ done line rest H Kb, J done H → rd H bc' 0 = some (.string (mkB rest)) → done ++ line :: lines rest = lines (L s) → (∀ H', J (done ++ [line]) H' → rd H' bc' 0 = some (.string (mkB rest)) → Kb .on H') → (∀ j up H', K (.off j up) H' → Kb (.off j up) H') → G (mkB line) H Kb)
    (hK : ∀ H', J (lines (L s)) H' → K .on H') : strings_Lines_1.I bc' H G K := by
  apply strings_Lines_1.of
  refine ⟨fun H => ∃ done rest, J done H ∧ rd H bc' 0 = some (.string (mkB rest)) ∧ done ++ lines rest = lines (L s) ∧ rest.length ≤ s.size, fun H => match rd H bc' 0 with | some (.string x) => x.size | _ => 0, ⟨[], L s, hJ, by rw [mk_L]; exact h0, rfl, by rw [L_size]; exact Nat.le_refl _⟩, fun H1 ⟨done, rest, j1, r1, e1, hle⟩ => ?_⟩
  refine ldS_i r1 ?_
  have hsz : (mkB rest).size = rest.length := rfl
  refine bcd (fun h => ?_) (fun h => ?_)
  · refine ldS_i r1 ?_
    refine strings_IndexByte.c (x := 10) ?_
    have hpos : 0 < rest.length := by rw [hsz] at h; omega
    rw [L_mk]
    rcases indexByte_spec rest 10 with ⟨e, hn⟩ | ⟨i, e, hi, hn, hd⟩
    · rw [e]
      refine bcd (fun h => by omega) (fun _ => ?_)
      refine ldS_i r1 (st r1 ?_)
      have r2 : rd (wr H1 bc' 0 (.string (bs []))) bc' 0 = some (.string (mkB [])) := rd_wr_self r1
      have hl : lines rest = [rest] := by
        rw [lines, linesA_last _ _ hn]
        simp [List.length_pos_iff.1 hpos]
      rw [hl] at e1
      refine hG done rest [] _ _ (hw _ _ _ j1) r2 (by rw [show lines [] = [] from rfl]; exact e1) (fun H' j2 r3 => alOn ⟨⟨_, [], j2, r3, by rw [show lines [] = [] from rfl, List.append_nil]; exact e1, Nat.zero_le _⟩, ?_⟩) (fun j up H' hk => hk)
      simp only [r1, r3]
      exact hpos
    · rw [e]
      refine bcd (fun _ => ?_) (fun h => absurd (by omega) h)
      refine ldS_i r1 ?_
      have hbig : rest.length < 9223372036854775807 := by omega
      · refine chk (by omega) ?_
        refine ⟨i + 1, by omega, by rw [hsz]; omega, ?_⟩
        refine ldS_i r1 (chk (by omega) ?_)
        refine ⟨i + 1, by omega, by rw [hsz]; omega, ?_⟩
        refine st r1 ?_
        have e2 : (mkB rest).extract (i + 1) (mkB rest).size = mkB (rest.drop (i + 1)) := L_inj (by rw [L_extract, L_mk, L_mk, hsz, List.take_length])
        have e3 : (mkB rest).extract 0 (i + 1) = mkB (rest.take i ++ [10]) := L_inj (by rw [L_extract, L_mk, L_mk, List.drop_zero, take_cut hi hd])
        rw [e2, e3]
        have r2 : rd (wr H1 bc' 0 (.string (mkB (rest.drop (i + 1))))) bc' 0 = some (.string (mkB (rest.drop (i + 1)))) := rd_wr_self r1
        have hl := lines_cut hn hd
        rw [hl] at e1
        refine hG done _ _ _ _ (hw _ _ _ j1) r2 e1 (fun H' j2 r3 => alOn ⟨⟨_, _, j2, r3, by rw [List.append_assoc]; exact e1, by rw [List.length_drop]; omega⟩, ?_⟩) (fun j up H' hk => hk)
        simp only [r1, r3]
        rw [hsz, show (mkB (rest.drop (i + 1))).size = rest.length - (i + 1) from by rw [L_size, L_mk, List.length_drop]]
        omega
  · have : rest = [] := List.length_eq_zero_iff.1 (by rw [hsz] at h; omega)
    subst this
    rw [show lines [] = [] from rfl, List.append_nil] at e1
    rw [← e1] at hK
    exact hK H1 j1
end Go.Proofs.Ytjfohhgmapipnaa
