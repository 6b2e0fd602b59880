/- Measures: their order, whether two are alike, their keys; the document's answers of the same. -/
import Derived.Test.YtapjajclmbpjmaaGreatDoorGauge
import Derived.Laws.BitsAllLaws
namespace Go.Proofs.YtapjajclmbpjmaaGreatDoor.Gauge
open Go.RowKit Go.Proofs.YtapjajclmbpjmaaGreatDoor.Mem Go.Proofs.YtapjajclmbpjmaaGreatDoor.Dbl
end Go.Proofs.YtapjajclmbpjmaaGreatDoor.Gauge
