/- topic.kind: one of the five. -/
import Derived.Test.YtcioahjfmmhiiaaDoorPAf19
namespace Go.Proofs.YtcioahjfmmhiiaaDoor.PA
open Go.RowKit Go.Proofs.YtcioahjfmmhiiaaDoorW.PrintWords Go.Proofs.YtcioahjfmmhiiaaDoorW.PrintLast Go.Proofs.YtcioahjfmmhiiaaDoorW.PrintMore
def isKind (x : ByteArray) : Bool := x.data.toList == [111, 114, 100, 101, 114] || x.data.toList == [105, 110, 115, 116, 97, 110, 116, 65, 99, 116, 105, 111, 110, 115] || x.data.toList == [115, 116, 97, 116, 101] || x.data.toList == [99, 111, 110, 110, 101, 99, 116, 105, 111, 110] || x.data.toList == [118, 105, 115, 117, 97, 108, 105, 122, 97, 116, 105, 111, 110]
theorem kind_f (x : ByteArray) : topic_kind.f 20 x = some (isKind x) := by
  unfold topic_kind.f slices_Contains_string_string.f slices_Index_string_string.f isKind
  generalize hx : x.data.toList = l
  by_cases h1 : l = [111, 114, 100, 101, 114]
  · subst h1; simp [slices_Index_string_string.l0, rdOf, ByteArray.toList_eq, hx]
  · by_cases h2 : l = [105, 110, 115, 116, 97, 110, 116, 65, 99, 116, 105, 111, 110, 115]
    · subst h2; simp [slices_Index_string_string.l0, rdOf, ByteArray.toList_eq, hx, wrap64]
    · by_cases h3 : l = [115, 116, 97, 116, 101]
      · subst h3; simp [slices_Index_string_string.l0, rdOf, ByteArray.toList_eq, hx, wrap64]
      · by_cases h4 : l = [99, 111, 110, 110, 101, 99, 116, 105, 111, 110]
        · subst h4; simp [slices_Index_string_string.l0, rdOf, ByteArray.toList_eq, hx, wrap64]
        · by_cases h5 : l = [118, 105, 115, 117, 97, 108, 105, 122, 97, 116, 105, 111, 110]
          · subst h5; simp [slices_Index_string_string.l0, rdOf, ByteArray.toList_eq, hx, wrap64]
          · simp [slices_Index_string_string.l0, rdOf, ByteArray.toList_eq, hx, wrap64, h1, h2, h3, h4, h5]
end Go.Proofs.YtcioahjfmmhiiaaDoor.PA
