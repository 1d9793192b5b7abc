/- slices.SortFunc's contract at digests, as the shelf has it. -/
import Derived.Test.YtegkjmmknjhdiaaBlob11
import Derived.Test.YtegkjmmknjhdiaaSortD
import Derived.Shelf.SlSortCmp.NoneTotal
namespace Go.Proofs.Ytegkjmmknjhdiaa
open Go.RowKit Go.Maps Go.Sort Go.Lib
theorem sorts_dig : SortsD where
  some := fun blk off cap d w hH hb hs => by
    have h := AnyQ.slices_SortFunc Try.sortD 32 Try.isAgg39 Try.sizeOf39 digC digC_len digC_one cfD swoD 58 #[] blk off cap d w (enters_of Try.func58 (by kernel_rfl) rfl) (fun m os dk _ x y => digcmp_any _ x y) hH hb hs
    exact h
  none := fun w => by
    have h := AnyF.slices_SortFunc_none (P := Try.prog) (ρ := Try.sortD_ren) { Try.sortD with } none 0 cmpV w
    exact h
end Go.Proofs.Ytegkjmmknjhdiaa
