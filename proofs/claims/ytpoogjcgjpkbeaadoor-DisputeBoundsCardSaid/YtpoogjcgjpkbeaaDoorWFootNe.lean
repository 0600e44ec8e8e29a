-- PRINTED BY print.sh 35421559b90ae4d0a3588c463048766b98c2df88dd9212a6774a882060cdf62d: not written by this session
import Derived.Test.YtpoogjcgjpkbeaaDoorWN
namespace Go.Proofs.YtpoogjcgjpkbeaaDoorW.PrintWords
open Go.RowKit
namespace Kd
end Kd
end Go.Proofs.YtpoogjcgjpkbeaaDoorW.PrintWords
