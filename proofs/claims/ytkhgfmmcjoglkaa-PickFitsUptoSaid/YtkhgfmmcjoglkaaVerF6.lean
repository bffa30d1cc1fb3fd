/-
  The document's version: Apply, whole.
-/
import Derived.Test.YtkhgfmmcjoglkaaVerF1
import Derived.Test.YtkhgfmmcjoglkaaVerF2
import Derived.Test.YtkhgfmmcjoglkaaVerF3
import Derived.Test.YtkhgfmmcjoglkaaVerF4
import Derived.Test.YtkhgfmmcjoglkaaVerF5
namespace Go.Proofs.Ytkhgfmmcjoglkaa
open Go.RowKit
theorem doc_apply (S : VerV) (E : EditV) (v av dv : Value) (w : World) (hv : Lst docC w v (flat S)) (ha : Lst docC w av E.add) (hd : Lst i64C w dv E.drop)
    (hS : (flat S).length ≤ 200000000) (hA : E.add.length ≤ 100000000) (hD : E.drop.length ≤ 100000000) :
    Calls Try.prog 9 #[.agg #[v, .int .i64 S.log, .int .i64 S.next, .int .i64 S.seq], .agg #[av, dv, .int .i64 E.log, .int .i64 E.next, .int .i64 E.seq]] w (DApplyPost w S E) := by
  by_cases h1 : okNums S E
  · by_cases h2 : okDrops (filesOf (flat S)) E.drop
    · by_cases h3 : okAdds (filesOf (flat S)) E.next E.add
      · by_cases h4 : ∀ i, 1 ≤ i → i < 4 → ((nextV S E).lv i).Pairwise Apart
        · exact doc_apply_ok S E v av dv w hv ha hd hS hA hD ⟨h1, h2, h3, h4⟩
        · exact doc_apply_pairs S E v av dv w hv ha hd hS hA hD h1 h2 h3 h4
      · exact doc_apply_adds S E v av dv w hv ha hd hS hA hD h1 h2 h3
    · exact doc_apply_drops S E v av dv w hv ha hd hS hA hD h1 h2
  · exact doc_apply_nums S E v av dv w hv ha hd hS hA hD h1
end Go.Proofs.Ytkhgfmmcjoglkaa
