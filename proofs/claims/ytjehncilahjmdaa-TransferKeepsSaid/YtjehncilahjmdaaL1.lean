/-
  Flash: pages that are erased, and words that are programmed.
-/
import Derived.Test.YtjehncilahjmdaaH1
set_option linter.unusedSimpArgs false
set_option linter.unnecessarySimpa false
set_option linter.unusedVariables false
set_option linter.unusedSectionVars false
namespace Go.Fw
/-- Whole numbers as cells. -/
def iv (n : Int) : AV := .int .i64 n
@[simp] theorem ltL_iv (n : Nat) (l : List Int) : ltL n (l.map iv) = true := ltL_map _ fun x => by simp [iv, AV.ltI]
@[simp] theorem idsL_iv (q : Nat → Bool) (l : List Int) : idsL q (l.map iv) = true := idsL_map _ fun x => by simp [iv, AV.ids]
@[simp] theorem subL_iv (s : Nat → Nat → Nat → Nat → Option Nat → AV) (p : Nat → Nat → AV) (l : List Int) : subL s p (l.map iv) = l.map iv := subL_map _ fun x => by simp [iv, AV.sub]
@[simp] theorem cleanL_iv (l : List Int) : cleanL (l.map iv) = true := cleanL_map _ fun x => by simp [iv, AV.clean]
@[simp] theorem ltL_repiv (m n : Nat) (k : Int) : ltL m (List.replicate n (iv k)) = true := by simpa using ltL_iv m (List.replicate n k)
@[simp] theorem idsL_repiv (q : Nat → Bool) (n : Nat) (k : Int) : idsL q (List.replicate n (iv k)) = true := by simpa using idsL_iv q (List.replicate n k)
@[simp] theorem subL_repiv (s : Nat → Nat → Nat → Nat → Option Nat → AV) (p : Nat → Nat → AV) (n : Nat) (k : Int) : subL s p (List.replicate n (iv k)) = List.replicate n (iv k) := by simpa using subL_iv s p (List.replicate n k)
@[simp] theorem cleanL_repiv (n : Nat) (k : Int) : cleanL (List.replicate n (iv k)) = true := by simpa using cleanL_iv (List.replicate n k)
theorem le4 (a b c d : UInt8) : bitI .or .u32 (bitI .or .u32 (bitI .or .u32 (a.toNat : Nat) (IntKind.u32.wrap ((b.toNat : Nat) * 256))) (IntKind.u32.wrap ((c.toNat : Nat) * 65536))) (IntKind.u32.wrap ((d.toNat : Nat) * 16777216)) = (byN [a, b, c, d] : Nat) := by
  have ha := a.toNat_lt; have hb := b.toNat_lt; have hc := c.toNat_lt; have hd := d.toNat_lt
  have e1 : ((b.toNat : Nat) : Int) * 256 = ((b.toNat * 256 : Nat) : Int) := by simp
  have e2 : ((c.toNat : Nat) : Int) * 65536 = ((c.toNat * 65536 : Nat) : Int) := by simp
  have e3 : ((d.toNat : Nat) : Int) * 16777216 = ((d.toNat * 16777216 : Nat) : Int) := by simp
  rw [e1, e2, e3, wrapu32, wrapu32, wrapu32, Nat.mod_eq_of_lt (by omega), Nat.mod_eq_of_lt (by omega), Nat.mod_eq_of_lt (by omega)]
  have o1 := or_shl a.toNat b.toNat 8 (by omega)
  have o2 := or_shl (a.toNat + b.toNat * 256) c.toNat 16 (by omega)
  have o3 := or_shl (a.toNat + b.toNat * 256 + c.toNat * 65536) d.toNat 24 (by omega)
  rw [show (2 : Nat) ^ 8 = 256 from rfl] at o1
  rw [show (2 : Nat) ^ 16 = 65536 from rfl] at o2
  rw [show (2 : Nat) ^ 24 = 16777216 from rfl] at o3
  rw [bitI_or rfl (show a.toNat < 2 ^ 32 by omega) (show b.toNat * 256 < 2 ^ 32 by omega), o1]
  rw [bitI_or rfl (show a.toNat + b.toNat * 256 < 2 ^ 32 by omega) (show c.toNat * 65536 < 2 ^ 32 by omega), o2]
  rw [bitI_or rfl (show a.toNat + b.toNat * 256 + c.toNat * 65536 < 2 ^ 32 by omega) (show d.toNat * 16777216 < 2 ^ 32 by omega), o3]
  simp only [byN]
  omega
/-- Bytes in the place of others. -/
def ovw (b : List UInt8) (o : Nat) (l : List UInt8) : List UInt8 := b.take o ++ l ++ b.drop (o + l.length)
theorem ovw_len {b : List UInt8} {o : Nat} {l : List UInt8} (h : o + l.length ≤ b.length) : (ovw b o l).length = b.length := by
  simp only [ovw, List.length_append, List.length_take, List.length_drop]; omega
theorem ovw_nil (b : List UInt8) (o : Nat) : ovw b o [] = b := by simp [ovw]
theorem ovw_snoc {b : List UInt8} {o : Nat} {l : List UInt8} {x : UInt8} (h : o + l.length < b.length) : (ovw b o l).set (o + l.length) x = ovw b o (l ++ [x]) := by
  have h1 : b.drop (o + l.length) = b[o + l.length] :: b.drop (o + l.length + 1) := List.drop_eq_getElem_cons h
  simp only [ovw, List.length_append, List.length_singleton]
  rw [h1, List.set_append_right _ _ (by simp; omega)]
  simp only [List.length_append, List.length_take, Nat.min_eq_left (show o ≤ b.length by omega), Nat.sub_self, List.set_cons_zero, List.append_assoc, List.singleton_append, Nat.add_assoc]
theorem ovw_set {b : List UInt8} {o i : Nat} {l : List UInt8} {x : UInt8} (h : i < l.length) (ho : o ≤ b.length) : (ovw b o l).set (o + i) x = ovw b o (l.set i x) := by
  simp only [ovw, List.length_set]
  rw [List.append_assoc, List.set_append_right _ _ (by simp; omega), List.length_take, Nat.min_eq_left ho, Nat.add_sub_cancel_left, List.set_append_left _ _ h, List.append_assoc]
theorem ovw_self {b : List UInt8} {o n : Nat} (h : o + n ≤ b.length) : ovw b o ((b.drop o).take n) = b := by
  have : ((b.drop o).take n).length = n := by simp; omega
  rw [ovw, this, ← List.drop_drop, List.append_assoc, List.take_append_drop, List.take_append_drop]
/-- Bits of bytes, one by one. -/
def andB (a b : List UInt8) : List UInt8 := a.zipWith (· &&& ·) b
/-- What a torn word is: bits fall that should, where the tear tells. -/
def tornB (a b t : List UInt8) : List UInt8 := (a.zip (b.zip t)).map fun (x, y, z) => x &&& ~~~(~~~y &&& z)
/-- Flash. -/
structure Fl where
  b : List UInt8
  lo : Int
  hi : Int
  ops : Int
  armed : Bool
  left : Int
  tear : Nat
  off : Bool
  worn : List Int
structure Fl.Ok (f : Fl) : Prop where
  len : f.b.length = 256 * f.worn.length
  pages : f.worn.length ≤ 64
  left : 0 ≤ f.left ∧ f.left < 2 ^ 63
  tear : f.tear < 2 ^ 32
/-- Does the power go in this step? The flash then. -/
def stepF (f : Fl) : Bool × Fl :=
  if f.armed = true ∧ f.left = 0 then (false, { f with off := true, armed := false })
  else (true, { f with left := if f.armed = true then f.left - 1 else f.left, ops := IntKind.i64.wrap (f.ops + 1) })
theorem stepF_ok {f : Fl} (h : f.Ok) : (stepF f).2.Ok := by
  obtain ⟨h1, h2, h3, h4⟩ := h
  unfold stepF; split
  · exact ⟨h1, h2, h3, h4⟩
  · refine ⟨h1, h2, ?_, h4⟩
    simp only
    split
    · rename_i q w; have : f.left ≠ 0 := fun z => q ⟨w, z⟩; omega
    · exact h3
theorem stepF_b (f : Fl) : (stepF f).2.b = f.b ∧ (stepF f).2.worn = f.worn ∧ (stepF f).2.lo = f.lo ∧ (stepF f).2.hi = f.hi ∧ (stepF f).2.tear = f.tear := by
  unfold stepF; split <;> simp
/-- A word is programmed. -/
def wordF (f : Fl) (at_ : Nat) (w : List UInt8) : Int × Fl :=
  let was := (f.b.drop at_).take 4
  if (stepF f).1 = false then (5, { (stepF f).2 with b := ovw f.b at_ (tornB was w (byL 4 f.tear)) })
  else (if andB was w = w then 0 else 6, { (stepF f).2 with b := ovw f.b at_ (andB was w) })
/-- So many words. -/
def wordsF : Nat → Fl → Nat → List UInt8 → Int × Fl
  | 0, f, _, _ => (0, f)
  | n + 1, f, at_, d => if (wordF f at_ (d.take 4)).1 = 0 then wordsF n (wordF f at_ (d.take 4)).2 (at_ + 4) (d.drop 4) else wordF f at_ (d.take 4)
/-- Is a page of so many bytes from a place on locked? -/
def lockd (f : Fl) (at_ n : Int) : Bool := decide (0 < n ∧ ∃ k : Nat, k < 65 ∧ at_ / 256 ≤ k ∧ k * 256 < at_ + n ∧ f.lo ≤ k ∧ k < f.hi)
def progF (f : Fl) (at_ : Int) (d : List UInt8) : Int × Fl :=
  if f.off = true then (5, f)
  else if ¬ (at_ % 4 = 0 ∧ d.length % 4 = 0) then (2, f)
  else if at_ < 0 ∨ f.b.length < at_ ∨ (f.b.length : Int) - at_ < d.length then (3, f)
  else if lockd f at_ d.length = true then (4, f)
  else wordsF (d.length / 4) f at_.toNat d
/-- A page is erased: whole, or as the tear tells. -/
def pageF (whole : Bool) (t : Nat) (l : List UInt8) : List UInt8 := l.mapIdx fun i x => if whole = true ∨ t / 2 ^ (i % 32) % 2 = 1 then 255 else x
def eraseF (f : Fl) (page : Int) : Int × Fl :=
  if f.off = true then (5, f)
  else if page < 0 ∨ f.worn.length ≤ page then (3, f)
  else if f.lo ≤ page ∧ page < f.hi then (4, f)
  else
    let k := page.toNat
    let b := ovw f.b (256 * k) (pageF (stepF f).1 f.tear ((f.b.drop (256 * k)).take 256))
    if (stepF f).1 = false then (5, { (stepF f).2 with b := b })
    else (0, { (stepF f).2 with b := b, worn := f.worn.set k (IntKind.i64.wrap (f.worn.getD k 0 + 1)) })
def readF (f : Fl) (at_ n : Int) : List UInt8 × Int :=
  if f.off = true then ([], 5)
  else if at_ < 0 ∨ n < 0 ∨ f.b.length < at_ ∨ (f.b.length : Int) - at_ < n then ([], 3)
  else ((f.b.drop at_.toNat).take n.toNat, 0)
def failF (f : Fl) (after : Int) (tear : Nat) : Int × Fl := if after < 0 then (1, f) else (0, { f with armed := true, left := after, tear := tear })
def powerF (f : Fl) : Fl := { f with off := false, armed := false }
def newF (n : Nat) : Fl := ⟨List.replicate (256 * n) 255, 0, 0, 0, false, 0, 0, false, List.replicate n 0⟩
theorem newF_ok {n : Nat} (h : n ≤ 64) : (newF n).Ok := ⟨by simp [newF], by simpa [newF] using h, by simp [newF], by simp [newF]⟩
theorem andB_len {a b : List UInt8} (h : a.length = b.length) : (andB a b).length = b.length := by simp [andB, h]
theorem tornB_len {a b t : List UInt8} (h : a.length = b.length) (h2 : t.length = b.length) : (tornB a b t).length = b.length := by simp [tornB, h, h2]
theorem was_len {b : List UInt8} {o : Nat} (h : o + 4 ≤ b.length) : ((b.drop o).take 4).length = 4 := by simp; omega
theorem wordF_len {f : Fl} {o : Nat} {w : List UInt8} (h : o + 4 ≤ f.b.length) (hw : w.length = 4) : (wordF f o w).2.b.length = f.b.length := by
  have h4 := was_len h
  unfold wordF; simp only; split
  · simp only; rw [ovw_len]; rw [tornB_len (by omega) (by simp [byL_len, hw])]; omega
  · simp only; rw [ovw_len]; rw [andB_len (by omega)]; omega
theorem wordF_ok {f : Fl} {o : Nat} {w : List UInt8} (hf : f.Ok) (h : o + 4 ≤ f.b.length) (hw : w.length = 4) : (wordF f o w).2.Ok := by
  have hl := wordF_len h hw
  obtain ⟨h1, h2, h3, h4⟩ := stepF_ok hf
  obtain ⟨b1, b2, b3, b4, b5⟩ := stepF_b f
  unfold wordF at *; simp only at *; split at hl
  · rename_i q; rw [if_pos q]; exact ⟨by simp only at *; rw [hl, b2, hf.len], by simpa using h2, h3, h4⟩
  · rename_i q; rw [if_neg q]; exact ⟨by simp only at *; rw [hl, b2, hf.len], by simpa using h2, h3, h4⟩
theorem wordF_same (f : Fl) (o : Nat) (w : List UInt8) : (wordF f o w).2.worn = f.worn ∧ (wordF f o w).2.lo = f.lo ∧ (wordF f o w).2.hi = f.hi ∧ (wordF f o w).2.tear = f.tear := by
  obtain ⟨b1, b2, b3, b4, b5⟩ := stepF_b f
  unfold wordF; simp only; split <;> exact ⟨b2, b3, b4, b5⟩
theorem wordsF_ok : ∀ (n : Nat) {f : Fl} {o : Nat} {d : List UInt8}, f.Ok → o + 4 * n ≤ f.b.length → d.length = 4 * n → (wordsF n f o d).2.Ok ∧ (wordsF n f o d).2.b.length = f.b.length
  | 0, f, o, d, hf, _, _ => ⟨hf, rfl⟩
  | n + 1, f, o, d, hf, h, hd => by
    have hk := wordF_ok (o := o) (w := d.take 4) hf (by omega) (by simp; omega)
    have hl := wordF_len (f := f) (o := o) (w := d.take 4) (by omega) (by simp; omega)
    rw [wordsF]
    split
    · have ih := wordsF_ok n (f := (wordF f o (d.take 4)).2) (o := o + 4) (d := d.drop 4) hk (by omega) (by simp; omega)
      exact ⟨ih.1, ih.2.trans hl⟩
    · exact ⟨hk, hl⟩
theorem progF_ok {f : Fl} (hf : f.Ok) (at_ : Int) (d : List UInt8) : (progF f at_ d).2.Ok ∧ (progF f at_ d).2.b.length = f.b.length := by
  unfold progF
  split
  · exact ⟨hf, rfl⟩
  split
  · exact ⟨hf, rfl⟩
  split
  · exact ⟨hf, rfl⟩
  split
  · exact ⟨hf, rfl⟩
  · rename_i h1 h2 h3 h4
    simp only [Classical.not_not] at h2
    exact wordsF_ok _ hf (by omega) (by omega)
theorem pageF_len (w : Bool) (t : Nat) (l : List UInt8) : (pageF w t l).length = l.length := by simp [pageF]
theorem eraseF_ok {f : Fl} (hf : f.Ok) (page : Int) : (eraseF f page).2.Ok ∧ (eraseF f page).2.b.length = f.b.length := by
  obtain ⟨h1, h2, h3, h4⟩ := stepF_ok hf
  obtain ⟨b1, b2, b3, b4, b5⟩ := stepF_b f
  have hl := hf.len
  unfold eraseF
  split
  · exact ⟨hf, rfl⟩
  split
  · exact ⟨hf, rfl⟩
  split
  · exact ⟨hf, rfl⟩
  · rename_i g1 g2 g3
    have hb : (ovw f.b (256 * page.toNat) (pageF (stepF f).1 f.tear ((f.b.drop (256 * page.toNat)).take 256))).length = f.b.length := by
      rw [ovw_len]; simp only [pageF_len, List.length_take, List.length_drop]; omega
    simp only
    split
    · exact ⟨⟨by simp only; rw [hb, b2, hl], by simpa using h2, h3, h4⟩, by simpa using hb⟩
    · exact ⟨⟨by simp only [List.length_set]; rw [hb, hl], by simpa using hf.pages, h3, h4⟩, by simpa using hb⟩
theorem powerF_ok {f : Fl} (hf : f.Ok) : (powerF f).Ok := ⟨hf.1, hf.2, hf.3, hf.4⟩
theorem failF_ok {f : Fl} (hf : f.Ok) {n : Int} {t : Nat} (hn : n < 2 ^ 63) (ht : t < 2 ^ 32) : (failF f n t).2.Ok := by
  unfold failF; split
  · exact hf
  · exact ⟨hf.1, hf.2, ⟨by simp only; omega, hn⟩, ht⟩
end Go.Fw
