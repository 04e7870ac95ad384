/- From what the rows list of the variables to the tables that unicode/utf8 reads. -/
import Derived.Test.YtcnjbbgecopjmaaDoorRows
import Derived.Test.YtcnjbbgecopjmaaDoorDec
import Derived.LaidMore
namespace Go.Proofs.YtcnjbbgecopjmaaDoor.Own

theorem tabs_of_met {W : World} (h : laidMetH Tryd.prog [("unicode/utf8.acceptRanges", Rows.laid_unicode_utf8_acceptRanges), ("unicode/utf8.first", Rows.laid_unicode_utf8_first)] W) : Tabs W := by
  rw [MakeChecks.laidMetH_plain _ _ _ (by kernel_rfl)] at h
  refine tabs_of_laid h (List.mem_cons_of_mem _ (List.mem_singleton.mpr rfl)) ?_
  rw [show Lib.acceptData = Rows.laid_unicode_utf8_acceptRanges from by kernel_rfl]
  exact List.mem_cons_self

end Go.Proofs.YtcnjbbgecopjmaaDoor.Own
