/- Joined out of smaller texts: CoV. -/
import Derived.Test.YtmjdmhelmgcanaaXL
/- Purses: nothing at all, sums, what is left. -/
namespace Go.Proofs.Ytmjdmhelmgcanaa
namespace M
open Go.RowKit
set_option linter.unusedSimpArgs false
set_option linter.unusedVariables false

theorem CoiP (p : Purse) : Coi (rowL p.lst) p.lst.length := Coi_rowL p.lst_ok
theorem lenP (p : Purse) : p.lst.length < 4096 := (okP p).1
theorem nil_lst : Purse.nil.lst = [] := by kernel_rfl
theorem puL_nil : puL [] = Purse.nil := Purse.ext' fun d hd => Purse.mk'_f hd top_pos
theorem eq_nil {p : Purse} (h : p.lst.length = 0) : p = Purse.nil := Purse.ext fun d => (Purse.len0 (p := p)).1 h d
theorem ofP_nil : ofP [] = Purse.nil := Purse.ext' fun d hd => Purse.mk'_f hd top_pos
theorem nil_le (p : Purse) : Purse.nil.le p := fun d => Nat.zero_le _
theorem nil_fits (p : Purse) : Purse.nil.fits p := fun d => by have := p.hb d; show 0 + p.f d < TOP; omega
theorem fits_nil (p : Purse) : p.fits Purse.nil := fun d => by have := p.hb d; show p.f d + 0 < TOP; omega
theorem nil_add (p : Purse) : Purse.nil.add p = p := Purse.ext fun d => by rw [Purse.add_f (nil_fits p)]; show 0 + p.f d = _; omega
theorem add_nil (p : Purse) : p.add Purse.nil = p := Purse.ext fun d => by rw [Purse.add_f (fits_nil p)]; rfl
theorem nil_sub (p : Purse) : Purse.nil.sub p = Purse.nil := Purse.ext fun d => by show 0 - p.f d = 0; omega
theorem sub_nil (p : Purse) : p.sub Purse.nil = p := Purse.ext fun d => rfl
theorem nil_min (p : Purse) : Purse.nil.min p = Purse.nil := Purse.ext fun d => Nat.zero_min _
theorem min_nil (p : Purse) : p.min Purse.nil = Purse.nil := Purse.ext fun d => Nat.min_zero _
theorem le_nil {p : Purse} (h : ¬ p.lst.length = 0) : ¬ p.le Purse.nil := fun hl => h (Purse.len0.2 fun d => Nat.le_zero.1 (hl d))
theorem add_sub {p q : Purse} (h : p.fits q) : (p.add q).sub q = p := Purse.ext fun d => by rw [Purse.sub_f, Purse.add_f h]; omega
theorem le_add1 {p q : Purse} (h : p.fits q) : p.le (p.add q) := fun d => by rw [Purse.add_f h]; omega
theorem le_add2 {p q : Purse} (h : p.fits q) : q.le (p.add q) := fun d => by rw [Purse.add_f h]; omega
theorem add_len {p q : Purse} (h : p.fits q) (hp : ¬ p.lst.length = 0) : ¬ (p.add q).lst.length = 0 := fun h0 => hp (Purse.len0.2 fun d => by
  have := (Purse.len0 (p := p.add q)).1 h0 d
  rw [Purse.add_f h] at this; omega)
theorem minsub_fits (p q : Purse) : (p.min q).fits (p.sub q) := fun d => by
  have := p.hb d
  rw [Purse.min_f, Purse.sub_f]
  show min (p.f d) (q.f d) + (p.f d - q.f d) < TOP
  omega
theorem minsub_add (p q : Purse) : (p.min q).add (p.sub q) = p := Purse.ext fun d => by
  rw [Purse.add_f (minsub_fits p q), Purse.min_f, Purse.sub_f]
  show min (p.f d) (q.f d) + (p.f d - q.f d) = p.f d
  omega
theorem min_le1 (p q : Purse) : (p.min q).le p := fun d => Nat.min_le_left _ _
theorem min_le2 (p q : Purse) : (p.min q).le q := fun d => Nat.min_le_right _ _

end M
end Go.Proofs.Ytmjdmhelmgcanaa
