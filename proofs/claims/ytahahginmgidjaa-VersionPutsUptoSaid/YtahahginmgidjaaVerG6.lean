/-
  The program's version: Apply, whole.
-/
import Derived.Test.YtahahginmgidjaaVerG1
import Derived.Test.YtahahginmgidjaaVerG2
import Derived.Test.YtahahginmgidjaaVerG3
import Derived.Test.YtahahginmgidjaaVerG4
import Derived.Test.YtahahginmgidjaaVerG5
namespace Go.Proofs.Ytahahginmgidjaa
open Go.RowKit
theorem ver_apply (S : VerV) (E : EditV) (L : Nat → Value) (av dv : Value) (w : World) (hS : Good S) (hEo : EdOk E) (hnx : I64 S.next) (hv : VerAt w L S.lv) (ha : Lst placeC w av E.add) (hd : Lst i64C w dv E.drop)
    (hSl : ∀ i, i < 4 → (S.lv i).length ≤ 50000000) (hA : E.add.length ≤ 50000000) (hD : E.drop.length ≤ 50000000) :
    Calls Try.prog 18 #[.agg #[L 0, L 1, L 2, L 3, .int .i64 S.log, .int .i64 S.next, .int .i64 S.seq], .agg #[av, dv, .int .i64 E.log, .int .i64 E.next, .int .i64 E.seq]] w (VApplyPost w S E) := by
  by_cases h1 : okNums S E
  · by_cases h2 : okDrops (filesOf (flat S)) E.drop
    · by_cases h3 : okAdds (filesOf (flat S)) E.next E.add
      · by_cases h4 : ∀ i, 1 ≤ i → i < 4 → ((nextV S E).lv i).Pairwise Apart
        · exact ver_apply_ok S E L av dv w hS hEo hnx hv ha hd hSl hA hD ⟨h1, h2, h3, h4⟩
        · exact ver_apply_pairs S E L av dv w hS hEo hnx hv ha hd hSl hA hD h1 h2 h3 h4
      · exact ver_apply_adds S E L av dv w hS hEo hnx hv ha hd hSl hA hD h1 h2 h3
    · exact ver_apply_drops S E L av dv w hS hEo hnx hv ha hd hSl hA hD h1 h2
  · exact ver_apply_nums S E L av dv w hS hEo hnx hv ha hd hSl hA hD h1
end Go.Proofs.Ytahahginmgidjaa
