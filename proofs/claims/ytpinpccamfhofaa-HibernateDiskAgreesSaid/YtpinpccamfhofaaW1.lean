/- The conditions of the functions of this translation, in parts. No condition. -/
import Derived.Test.YtpinpccamfhofaaV1
import Derived.Test.YtpinpccamfhofaaV2
import Derived.Test.YtpinpccamfhofaaV3
import Derived.Test.YtpinpccamfhofaaV4
set_option linter.unusedVariables false
set_option linter.unusedSimpArgs false
